/- Layer 3's laws: the example, and what PagesTwice needs. -/
import Derived.Test.YtpldogmamifdpaaPages2
import Derived.Test.YtpldogmamifdpaaMaps
import Derived.Test.YtpldogmamifdpaaLaw02B
set_option linter.unusedVariables false
set_option linter.unusedSimpArgs false
namespace Go.Proofs.Ytpldogmamifdpaa
open Go Go.RowKit

theorem pages_Grant_none (w : World) (s p g m h : Nat) (x : List Bool) (W : List Int) (n : Nat) (k : PagesAt w s p g m h x W) (h1 : 1 ≤ n) (h2 : n ≤ 100000) (hr : IsFind x n none) :
    Calls Try.prog 43 #[.pointer (some ⟨s, 0, none⟩), .int .i64 n] w fun e w' => e = .returned (.tuple #[.int .i64 0, .int .i64 3]) ∧ w = w' := by
  refine (pages_Grant w s p g m h x W n k (show _ ∧ _ from by omega)).mono ?_
  intro e w' hq
  rw [if_neg (by omega)] at hq
  obtain ⟨r, hr', hq⟩ := hq
  rw [Int.toNat_natCast] at hr'
  obtain rfl := hr'.uniq hr
  exact hq
theorem pages_Grant_some (w : World) (s p g m h : Nat) (x : List Bool) (W : List Int) (n j : Nat) (k : PagesAt w s p g m h x W) (h1 : 1 ≤ n) (h2 : n ≤ 100000) (hr : IsFind x n (some j)) :
    Calls Try.prog 43 #[.pointer (some ⟨s, 0, none⟩), .int .i64 n] w fun e w' => e = .returned (.tuple #[.int .i64 j, .int .i64 0]) ∧ PagesAt w' s p g m h (markB x j true n) (fillL W (16 * j) 0 (16 * n)) ∧ Ch (Two g h) w w' := by
  refine (pages_Grant w s p g m h x W n k (show _ ∧ _ from by omega)).mono ?_
  intro e w' hq
  rw [if_neg (by omega)] at hq
  obtain ⟨r, hr', hq⟩ := hq
  rw [Int.toNat_natCast] at hr'
  obtain rfl := hr'.uniq hr
  rw [Int.toNat_natCast] at hq
  exact hq

set_option maxRecDepth 100000 in
set_option maxHeartbeats 1000000 in
theorem fixed03 (w : World) : Calls Try.prog 41 #[] w fun e w' => e = .returned (.bool true) ∧ Ch No w w' := by
  go_enter Try.func41, Try.ntmps41
  go_wp2_with fail
  refine (pages_New w 3 (by omega) (by omega)).mono ?_
  rintro e w1 ⟨s, p, g, m, h, rfl, k1, hs, hp, hg, hm, hh, hc1⟩
  rw [show List.replicate 3 false = [false, false, false] from rfl] at k1
  dsimp only
  go_wp2_with fail
  with_reducible refine (pages_Mem w1 s p g m h _ _ k1).mono ?_
  rintro e w2 ⟨rfl, rfl⟩
  dsimp only
  have g1 := pages_Grant_some w1 s p g m h _ _ 2 0 k1 (by omega) (by omega) ⟨⟨by decide, fun j hj => by
    have : j = 0 ∨ j = 1 := by omega
    rcases this with rfl | rfl <;> rfl⟩, fun b hb => by omega⟩
  go_wp2_with fail
  refine g1.mono ?_
  rintro e w2 ⟨rfl, k2, hc2⟩
  rw [show markB [false, false, false] 0 true 2 = [true, true, false] from rfl] at k2
  have g2 := pages_Grant_none w2 s p g m h _ _ 2 k2 (by omega) (by omega) (fun b hb => by
    have h1 := hb.1
    have h2 := hb.2 0 (by omega)
    have : b = 0 ∨ b = 1 := by simp at h1; omega
    rcases this with rfl | rfl <;> simp at h2)
  dsimp only
  go_wp2_with fail
  refine g2.mono ?_
  rintro e w3 ⟨rfl, rfl⟩
  dsimp only
  go_wp2_with fail
  with_reducible refine (pages_Mem w2 s p g m h _ _ k2).mono ?_
  rintro e w3 ⟨rfl, rfl⟩
  have hl := words_Len w2 m h _ k2.mem
  rw [fillL_length, List.length_replicate] at hl
  dsimp only
  go_wp2_with fail
  refine hl.mono ?_
  rintro e w3 ⟨rfl, rfl⟩
  dsimp only
  go_wp2_with fail
  go_ret
  exact ⟨rfl, hc1.andThen hc2 (fun q hq => .inr (by rcases hq with q' | q' <;> omega))⟩

/-- A map tells which places are marked. -/
def OwnsB (al : AL) (x : List Bool) : Prop := ∀ i : Int, (aGet al i).getD (.bool false) = .bool (getB x i)
theorem OwnsB.nil (n : Nat) : OwnsB [] (List.replicate n false) := fun i => by
  show Value.bool false = _
  congr 1
  unfold getB
  simp only [List.getD_eq_getElem?_getD, List.getElem?_replicate]
  split <;> simp
theorem OwnsB.set {al : AL} {x : List Bool} (h : OwnsB al x) (i : Nat) (hi : i < x.length) (b : Bool) : OwnsB (aSet al (i : Int) (.bool b)) (x.set i b) := fun q => by
  rw [aGet_set]
  by_cases hq : q = (i : Int)
  · subst hq
    rw [if_pos rfl, getB_nat, getD_set _ _ _ _ hi, if_pos rfl]
    rfl
  · rw [if_neg hq, h q]
    congr 1
    unfold getB
    rw [List.length_set]
    by_cases h2 : 0 ≤ q ∧ q < (x.length : Int)
    · rw [getD_set _ _ _ _ hi, if_neg (by omega)]
    · rw [decide_eq_false h2]; rfl
theorem OwnsB.at {al : AL} {x : List Bool} (h : OwnsB al x) (i : Nat) : (aGet al (i : Int)).getD (.bool false) = .bool (x.getD i false) := by rw [h, getB_nat]

theorem bool_ext {x y : List Bool} (hl : x.length = y.length) (h : ∀ j, x.getD j false = y.getD j false) : x = y := by
  apply List.ext_getElem hl
  intro i h1 h2
  have := h i
  simp only [List.getD_eq_getElem?_getD, List.getElem?_eq_getElem h1, List.getElem?_eq_getElem h2, Option.getD_some] at this
  exact this
theorem back_eq (x : List Bool) (A B : Nat) (h : FreeAt x A B) : markB (markB x A true B) A false B = x :=
  bool_ext (by rw [markB_length, markB_length]) fun j => back_get x A B j h

/-- An act: its kind, a place, a number. -/
structure PAct where
  k : Int
  a : Int
  b : Int
def pactRp : Rp PAct := flat 3 (fun a => [.int .i64 a.k, .int .i64 a.a, .int .i64 a.b]) (fun _ => rfl) (by intro x u hu; simp at hu; rcases hu with rfl | rfl | rfl <;> rfl) (fun a => I64 a.k ∧ I64 a.a ∧ I64 a.b)
theorem SlR.pact_at {F : Nat → Prop} {w : World} {a : Option Addr} {c : Nat} {l : List PAct} (h : SlR pactRp F w a c l) (i : Nat) (hi : i < l.length) :
    ∃ b off, a = some ⟨b, off, none⟩ ∧ ¬ F b ∧ w.cell? ⟨b, off + i * 3, none⟩ = some (.int .i64 l[i].k) ∧ w.cell? ⟨b, off + i * 3 + 1, none⟩ = some (.int .i64 l[i].a) ∧ w.cell? ⟨b, off + i * 3 + 2, none⟩ = some (.int .i64 l[i].b) ∧ I64 l[i].k ∧ I64 l[i].a ∧ I64 l[i].b := by
  obtain ⟨b, off, ha, hb, hlt, es, hc, he, hw⟩ := h.at_ i hi
  subst he
  exact ⟨b, off, ha, hb, hc 0 _ rfl, hc 1 _ rfl, hc 2 _ rfl, hw⟩
theorem infoBoolP : (Try.prog.info? 4).map (·.zero) = some (some (.bool false)) := by kernel_rfl
end Go.Proofs.Ytpldogmamifdpaa

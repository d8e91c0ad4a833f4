/- The document's answer for layer 6: New, Page, Set. -/
import Derived.Test.YtlmaflhfedbmdaaOwn
set_option linter.unusedVariables false
set_option linter.unusedSimpArgs false
namespace Go.Proofs.Ytlmaflhfedbmdaa
open Go Go.RowKit

theorem infoI64 : (Try.prog.info? 3).map (fun i => (i.zero, i.size, i.bytes)) = some (some (.int .i64 0), 1, 8) := by kernel_rfl

/-- Page i of a list; nobody's if there is none. -/
def pageAt (l : List Int) (i : Int) : Int := if 0 ≤ i then l.getD i.toNat 0 else 0
theorem pageAt_out (l : List Int) (i : Int) (h : ¬ (0 ≤ i ∧ i < l.length)) : pageAt l i = 0 := by
  unfold pageAt
  split
  · rw [List.getD_eq_getElem?_getD, List.getElem?_eq_none (by omega)]; rfl
  · rfl
theorem pageAt_in (l : List Int) (k : Nat) (h : k < l.length) : pageAt l k = l[k] := by
  unfold pageAt
  rw [if_pos (by omega), Int.toNat_natCast, List.getD_eq_getElem?_getD, List.getElem?_eq_getElem h]; rfl
theorem pageAt_zeros (n : Nat) (i : Int) : pageAt (List.replicate n 0) i = 0 := by
  by_cases h : 0 ≤ i ∧ i < (List.replicate n (0 : Int)).length
  · obtain ⟨k, rfl⟩ : ∃ k : Nat, i = k := ⟨i.toNat, by omega⟩
    rw [pageAt_in _ k (by omega)]; simp
  · exact pageAt_out _ _ h

set_option maxRecDepth 100000 in
theorem ref06_New (F : Nat → Prop) (n : Int) (w : World) (hi : I64 n) (hF : ∀ k, F k → k < w.heap.size) :
    Calls Try.prog 31 #[.int .i64 n] w fun e w' => ∃ v, e = .returned v ∧ OwnR (intRp .i64) w.heap.size 3 F w' v (List.replicate (min (max n 0) 1024).toNat 0) ∧ Ch No w w' := by
  have hi' := hi.bd
  obtain ⟨m, hm⟩ : ∃ m, m = (min (max n 0) 1024).toNat := ⟨_, rfl⟩
  rw [← hm]
  have m1 : m ≤ 1024 := by omega
  have m2 : m = 0 ∨ (m : Int) ≤ n := by omega
  have m3 : m = 1024 ∨ n ≤ m := by omega
  clear hm
  go_enter Try.func31, Try.ntmps31
  go_wp2_with fail
  go_loopw [3, 4] (fun v i wr => ∃ k : Nat, k ≤ m ∧ i = .int .i64 k ∧ OwnR (intRp .i64) w.heap.size 3 F wr v (List.replicate k 0) ∧ Ch No w wr) (fun _ i _ => m - (intOf i).toNat)
  case atStart => exact ⟨0, by omega, rfl, OwnR.lit0 (Nat.le_refl _), (Ch.refl _ _).alloc _⟩
  case round =>
    obtain ⟨k, hk, rfl, ho, hc⟩ := hrel
    by_cases hlt : k < m
    · have hs := hc.size
      have b1 : decide ((k : Int) < n) = true := by simp; omega
      have b2 : decide ((k : Int) < 1024) = true := by simp; omega
      go_wp2_with (at_builtin; refine wpL_push rfl _ _ _ rfl w.heap.size 3 (.int .i64 0) 1 8 Try.underlying69 infoI64 rfl (by decide) (intRp .i64) rfl F u3 _ rfl ho [.int .i64 0] _ 0 1 rfl ⟨rfl, by simp [InK]⟩ hF (by simp; omega) (by simp; omega) hs ?_; intro v' w' ho' hg _)
      go_roundw
      case rel => exact ⟨k + 1, by omega, by go_num, by rw [List.replicate_succ']; exact ho', hg _ _ (Nat.le_refl _) hc⟩
      case measure => simp [intOf]; omega
    · have M2 := Lib.hid m2
      have M3 := Lib.hid m3
      clear m2 m3
      obtain rfl : k = m := by omega
      by_cases hkn : (k : Int) < n
      · have b1 : decide ((k : Int) < n) = true := by simp; omega
        have b2 : decide ((k : Int) < 1024) = false := by have := M3.out; simp; omega
        go_wp2_with fail
        go_ret
        exact ⟨_, rfl, ho, hc⟩
      · have b1 : decide ((k : Int) < n) = false := by simp; omega
        go_wp2_with fail
        go_ret
        exact ⟨_, rfl, ho, hc⟩

theorem ref06_Page (F : Nat → Prop) (w : World) (a : Option Addr) (c : Nat) (l : List Int) (i : Int) (h : SlR (intRp .i64) F w a c l) (hi : I64 i) (hl : l.length ≤ 100000) :
    Calls Try.prog 36 #[.slice a l.length c, .int .i64 i] w fun e w' => e = .returned (.int .i64 (pageAt l i)) ∧ w = w' := by
  have hi' := hi.bd
  by_cases h0 : i < 0
  · rw [pageAt_out l i (by omega)]
    go_enter Try.func36, Try.ntmps36
    go_wp2_with fail
    go_ret
    exact ⟨rfl, rfl⟩
  · by_cases h1 : (l.length : Int) ≤ i
    · rw [pageAt_out l i (by omega)]
      go_enter Try.func36, Try.ntmps36
      go_wp2_with fail
      go_ret
      exact ⟨rfl, rfl⟩
    · obtain ⟨b, off, rfl, _, _, c1, _⟩ := h.int_at i.toNat (by omega)
      have hv : l[i.toNat]'(by omega) = pageAt l i := by rw [← pageAt_in l i.toNat (by omega)]; congr 1; omega
      rw [hv] at c1
      clear hv h
      go_enter Try.func36, Try.ntmps36
      go_wp2_with fail
      go_ret
      exact ⟨rfl, rfl⟩
end Go.Proofs.Ytlmaflhfedbmdaa

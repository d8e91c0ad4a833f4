/- The reference of bits: Mark. -/
import Derived.Test.YtpldogmamifdpaaDoorRef02b
set_option linter.unusedVariables false
set_option linter.unusedSimpArgs false
namespace Go.Proofs.YtpldogmamifdpaaDoor
open Go Go.RowKit

theorem OwnR.bool_form {base : Nat} {T : TypeId} {F : Nat → Prop} {w : World} {v : Value} {l : List Bool} (h : OwnR boolRp base T F w v l) (hl : 0 < l.length) :
    ∃ g cap, v = .slice (some ⟨g, 0, none⟩) l.length cap ∧ base ≤ g ∧ g < w.heap.size ∧ (∀ i, ∀ hi : i < l.length, w.cell? ⟨g, i, none⟩ = some (.bool l[i])) ∧ ∀ i, w.frozen? ⟨g, i, none⟩ = false := by
  unfold boolRp at h
  obtain ⟨g, cap, hv, h1, h2, hc, hf, _⟩ := h.flat_form hl
  exact ⟨g, cap, hv, h1, h2, fun i hi => by simpa using hc i hi 0 _ rfl, hf⟩
theorem OwnR.bool_set {base : Nat} {T : TypeId} {F : Nat → Prop} {w : World} {g m cap : Nat} {l : List Bool} (h : OwnR boolRp base T F w (.slice (some ⟨g, 0, none⟩) m cap) l) (hm : m = l.length) (i : Nat) (hi : i < l.length) (x : Bool) :
    OwnR boolRp base T F (w.setCell ⟨g, i, none⟩ (.bool x)) (.slice (some ⟨g, 0, none⟩) m cap) (l.set i x) := by
  unfold boolRp at h ⊢
  have := h.flat_set hm i 0 hi (by omega) x (.bool x) rfl trivial
  simpa using this

set_option maxRecDepth 100000 in
set_option maxHeartbeats 2000000 in
theorem ref02_Mark (F : Nat → Prop) (w : World) (q : Option Addr) (c : Nat) (x : List Bool) (A B : Nat) (on : Bool) (h : SlR boolRp F w q c x) (hAB : A + B ≤ x.length) (hn : x.length ≤ 100000) (hF : ∀ k, F k → k < w.heap.size) :
    Calls Tryd.prog 58 #[.slice q x.length c, .agg #[.int .i64 A, .int .i64 B], .bool on] w fun e w' => ∃ r, e = .returned (.tuple #[r, .int .i64 0]) ∧ OwnR boolRp w.heap.size 4 F w' r (markB x A on B) ∧ Ch No w w' := by
  have hfit := ref02_Fits (w.alloc (.cells #[.int .i64 A, .int .i64 B] 37)) q c x.length A B (show _ ∧ _ from by omega) (show _ ∧ _ from by omega) hn
  rw [decide_eq_true (show fitsB x.length A B from by unfold fitsB; omega)] at hfit
  have hal : Ch No w (w.alloc (.cells #[.int .i64 A, .int .i64 B] 37)) := (Ch.refl _ _).alloc _
  have d0 : (w.alloc (.cells #[.int .i64 A, .int .i64 B] 37)).cell? ⟨w.heap.size, 0, none⟩ = some (.int .i64 A) := by simp
  have d1 : (w.alloc (.cells #[.int .i64 A, .int .i64 B] 37)).cell? ⟨w.heap.size, 1, none⟩ = some (.int .i64 B) := by simp
  go_enter Tryd.func58, Tryd.ntmps58
  go_wp2_with fail
  with_reducible refine hfit.mono ?_
  rintro e w1 ⟨rfl, hc1⟩
  have e0 := hc1.cell d0 (fun q => q)
  have e1 := hc1.cell d1 (fun q => q)
  have h1 := (h.ch0 hal).ch0 hc1
  have hcw := hal.trans hc1
  have hsz := hcw.size
  have hszb := hc1.size
  simp only [World.size_alloc] at hszb
  have hown0 : OwnR boolRp w1.heap.size 4 F (w1.alloc (.cells #[] 4)) (.slice (some ⟨w1.heap.size, 0, none⟩) 0 0) [] := OwnR.lit0 (Nat.le_refl _)
  have hl0 : SlR boolRp (fun k => F k ∨ (Value.slice (some ⟨w1.heap.size, 0, none⟩) 0 0).ownBlock = some k) (w1.alloc (.cells #[] 4)) q c x :=
    (h1.beside _ (fun k hk => by have := ownBlock_lit k hk; omega)).ch0 ((Ch.refl _ _).alloc _)
  clear h h1 hfit hal d0 d1 hc1
  dsimp only
  go_wp2_with (at_builtin; go_loud (refine wpL_appendR rfl _ _ _ rfl w1.heap.size 4 (.bool false) 1 1 Tryd.underlying58 infoBool rfl (by decide) boolRp rfl F (.slice (some ⟨w1.heap.size, 0, none⟩) 0 0) [] rfl hown0 q c x rfl hl0 (by simp; omega) (by simp; omega) (by simp) ?_); intro v1 w2 ho1 hg1 _)
  have hc2 : Ch No w1 w2 := hg1 _ _ (Nat.le_refl _) ((Ch.refl _ _).alloc _)
  clear hg1 hown0 hl0
  rw [List.nil_append] at ho1
  go_loopw [9] (fun i wr => ∃ (k : Nat) (zs : List Bool), k ≤ B ∧ i = .int .i64 k ∧ zs = markB x A on k ∧ OwnR boolRp w1.heap.size 4 F wr v1 zs ∧ Ch No w1 wr) (fun i _ => B - (intOf i).toNat)
  case atStart => exact ⟨0, _, by omega, rfl, rfl, ho1, hc2⟩
  case round =>
    obtain ⟨k, zs, hk, rfl, hzs, hoz, hc⟩ := hrel
    have b0 := hc.cell e0 (fun q => q)
    have b1 := hc.cell e1 (fun q => q)
    have hzl : zs.length = x.length := by rw [hzs, markB_length]
    have HZ := Lib.hid hzs; clear hzs
    by_cases hlt : k < B
    · obtain ⟨g, cap, hv, hg1, hg2, hcell, hfr⟩ := hoz.bool_form (by omega)
      obtain ⟨n, hn2⟩ : ∃ n, n = zs.length := ⟨_, rfl⟩
      rw [← hn2] at hv hzl
      subst hv
      have hc0 := hcell (A + k) (by omega)
      have hf0 := hfr (A + k)
      obtain ⟨z, hz⟩ : ∃ z, z = zs[A + k]'(by omega) := ⟨_, rfl⟩
      rw [← hz] at hc0
      have HN := Lib.hid hn2
      clear hn2 hz hcell hfr ho1
      go_wp2_with fail
      go_roundw
      case rel =>
        refine ⟨k + 1, zs.set (A + k) on, by omega, by go_num, ?_, hoz.bool_set HN.out _ (by rw [← HN.out]; omega) _, hc.setNew (by simp only; omega) _⟩
        rw [markB, ← HZ.out]
      case measure => exact meas_lt (by omega)
    · obtain rfl : k = B := by omega
      clear ho1
      go_wp2_with fail
      go_ret2
      refine ⟨_, rfl, ?_, hcw.trans hc⟩
      rw [← HZ.out]
      exact hoz.base hsz

theorem ref02_Mark_all (F : Nat → Prop) (w : World) (q : Option Addr) (c : Nat) (x : List Bool) (a b : Int) (on : Bool) (h : SlR boolRp F w q c x) (ha : I64 a) (hb : I64 b) (hn : x.length ≤ 100000) (hF : ∀ k, F k → k < w.heap.size) :
    Calls Tryd.prog 58 #[.slice q x.length c, .agg #[.int .i64 a, .int .i64 b], .bool on] w fun e w' => ∃ q' c', e = .returned (.tuple #[.slice q' x.length c', .int .i64 (markE x a b)]) ∧ SlR boolRp F w' q' c' (markL x a b on) ∧ Ch No w w' := by
  unfold markE markL
  by_cases hf : fitsB x.length a b
  · rw [if_pos hf, if_pos hf]
    have hf2 := hf
    unfold fitsB at hf2
    have := ref02_Mark F w q c x a.toNat b.toNat on h (by omega) hn hF
    rw [show ((a.toNat : Nat) : Int) = a by omega, show ((b.toNat : Nat) : Int) = b by omega] at this
    refine this.mono ?_
    rintro e w' ⟨r, rfl, ho, hc⟩
    obtain ⟨q', c', rfl, hs⟩ := ho.sl hF
    rw [markB_length]
    exact ⟨q', c', rfl, hs, hc⟩
  · rw [if_neg hf, if_neg hf]
    refine (ref02_Mark_no w q c x.length a b on ha hb hn hf).mono ?_
    rintro e w' ⟨rfl, hc⟩
    exact ⟨q, c, rfl, h.ch0 hc, hc⟩
end Go.Proofs.YtpldogmamifdpaaDoor

/- The law OpsGet: the walk. -/
import Derived.Test.YtlmaflhfedbmdaaRef21
import Derived.Test.YtlmaflhfedbmdaaLawOpsNames
set_option linter.unusedVariables false
set_option linter.unusedSimpArgs false
namespace Go.Proofs.Ytlmaflhfedbmdaa
open Go Go.RowKit

theorem SlR.ops_wf {F : Nat → Prop} {w : World} {a : Option Addr} {c : Nat} {l : List OpV} (h : SlR opRp F w a c l) : ∀ o ∈ l, o.wf := by
  intro o ho
  obtain ⟨i, hi, rfl⟩ := List.getElem_of_mem ho
  obtain ⟨b, off, _, _, _, _, _, _, _, hw⟩ := h.op_at i hi
  exact hw
theorem SlR.bytes {F : Nat → Prop} {w : World} {a : Option Addr} {c : Nat} {l : List Int} (h : SlR (intRp .u8) F w a c l) : ∀ o ∈ l, 0 ≤ o ∧ o ≤ 255 := by
  intro o ho
  obtain ⟨i, hi, rfl⟩ := List.getElem_of_mem ho
  obtain ⟨b, off, _, _, _, _, hw⟩ := h.int_at i hi
  exact hw
theorem putL_length (l : List OpV) : (putL l).length ≤ 25 * l.length := by
  unfold putL
  split
  · rw [flat_length]; exact Nat.le_refl _
  · simp
theorem putL_bytes (l : List OpV) : ∀ o ∈ putL l, 0 ≤ o ∧ o ≤ 255 := by
  unfold putL
  split
  · exact flat_byte l ‹_›
  · simp
theorem no_lt21 {n : Nat} : ∀ k, No k → k < n := fun _ q => False.elim q

set_option maxRecDepth 100000 in
set_option maxHeartbeats 4000000 in
theorem get21 (w : World) (a : Option Addr) (c : Nat) (b : List Int) (h : SlR (intRp .u8) No w a c b) (hm : b.length ≤ 9223372036854775807) :
    Calls Try.prog 6 #[.slice a b.length c] w fun e w' => e = .returned (.bool true) ∧ Ch No w w' := by
  by_cases h100 : b.length ≤ 2500
  · have hd : decide ((b.length : Int) > 2500) = false := decide_eq_false (by omega)
    have hby := h.bytes
    go_enter Try.func6, Try.ntmps6
    go_wp2_with fail
    with_reducible refine (ops_Get No w a c b h hby (by omega) no_lt21).mono ?_
    rintro e w1 ⟨v, rfl, hv, hc1⟩
    obtain ⟨a1, c1, rfl, hs1⟩ := hv.sl no_lt21
    have h1 := h.ch0 hc1
    have hcv := conv_sl h1
    dsimp only
    go_wp2_with fail
    with_reducible refine (ref21_Get No w1 b hby (by omega) no_lt21).mono ?_
    rintro e w2 ⟨v2, rfl, hv2, hc2⟩
    obtain ⟨a2, c2, rfl, hs2⟩ := hv2.sl no_lt21
    have h2 := h1.ch0 hc2
    have hs1' := hs1.ch0 hc2
    have hne : getE b = if b.length % 25 = 0 then 0 else 10 := rfl
    have hrt := putL_getL b hby
    have hgl : (getL b).length ≤ 100 := by
      unfold getL
      split
      · rw [getN_length]; omega
      · simp
    obtain ⟨L, hL⟩ : ∃ L, L = getL b := ⟨_, rfl⟩
    rw [← hL] at hs1' hs2 hrt hgl
    obtain ⟨E, hE⟩ : ∃ E, E = getE b := ⟨_, rfl⟩
    rw [← hE] at hne
    simp only [← hL, ← hE]
    clear hs1 hv hv2 h1 hL hE h hcv
    have HNE := Lib.hid hne; have HRT := Lib.hid hrt; clear hne hrt
    have hee : (E != E) = false := by simp
    go_wp2_with fail
    with_reducible refine (ref21_Same w2 No No a1 a2 c1 c2 L hs1' hs2 (by omega)).mono ?_
    rintro e w3 ⟨rfl, hc3⟩
    have hs3 := hs1'.ch0 hc3
    have h3 := h2.ch0 hc3
    clear hs1' hs2 h2
    dsimp only
    go_wp2_with fail
    with_reducible refine (ops_Put No w3 a1 c1 L hs3 (by omega) no_lt21).mono ?_
    rintro e w4 ⟨v4, rfl, hv4, hc4⟩
    obtain ⟨a4, c4, rfl, hs4⟩ := hv4.sl no_lt21
    have h4 := h3.ch0 hc4
    dsimp only
    go_wp2_with fail
    with_reducible refine (fixed21 w4).mono ?_
    rintro e w5 ⟨rfl, hc5⟩
    have h5 := h4.ch0 hc5
    have hs5 := hs4.ch0 hc5
    have hw5 := (((hc1.trans hc2).trans hc3).trans hc4).trans hc5
    dsimp only
    by_cases hok : b.length % 25 = 0
    · obtain rfl : E = 0 := by have := HNE.out; rw [if_pos hok] at this; exact this
      obtain ⟨r1, r2⟩ := HRT.out hok
      rw [r1] at hs5
      rw [r1, r2]
      have hcv1 := conv_sl h5
      have hcv2 := conv_sl hs5
      have hss : ((strOfNums b).toList == (strOfNums b).toList) = true := by simp
      clear h4 hs4 hv4
      go_wp2_with fail
      go_ret
      exact ⟨rfl, hw5⟩
    · obtain rfl : E = 10 := by have := HNE.out; rw [if_neg hok] at this; exact this
      go_wp2_with fail
      go_ret
      exact ⟨rfl, hw5⟩
  · have hd : decide ((b.length : Int) > 2500) = true := decide_eq_true (by omega)
    go_enter Try.func6, Try.ntmps6
    go_wp2_with fail
    with_reducible refine (fixed21 w).mono ?_
    rintro e w4 ⟨rfl, hc4⟩
    dsimp only
    go_wp2_with fail
    go_ret
    exact ⟨rfl, hc4⟩
end Go.Proofs.Ytlmaflhfedbmdaa

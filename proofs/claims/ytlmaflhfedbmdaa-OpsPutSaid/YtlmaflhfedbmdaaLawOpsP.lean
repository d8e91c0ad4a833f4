/- The law OpsPut: the walk. -/
import Derived.Test.YtlmaflhfedbmdaaLawOpsG
import Derived.Test.YtlmaflhfedbmdaaRef21b
set_option linter.unusedVariables false
set_option linter.unusedSimpArgs false
namespace Go.Proofs.Ytlmaflhfedbmdaa
open Go Go.RowKit

set_option maxRecDepth 100000 in
set_option maxHeartbeats 4000000 in
theorem put21 (w : World) (a : Option Addr) (c : Nat) (l : List OpV) (h : SlR opRp No w a c l) (hm : l.length ≤ 9223372036854775807) :
    Calls Try.prog 5 #[.slice a l.length c] w fun e w' => e = .returned (.bool true) ∧ Ch No w w' := by
  by_cases h100 : l.length ≤ 100
  · have hd : decide ((l.length : Int) > 100) = false := decide_eq_false (by omega)
    have hwf := h.ops_wf
    go_enter Try.func5, Try.ntmps5
    go_wp2_with fail
    with_reducible refine (ops_Put No w a c l h (by omega) no_lt21).mono ?_
    rintro e w1 ⟨v, rfl, hv, hc1⟩
    obtain ⟨a1, c1, rfl, hs1⟩ := hv.sl no_lt21
    have h1 := h.ch0 hc1
    dsimp only
    go_wp2_with fail
    with_reducible refine (ref21_Put No w1 a c l h1 (by omega)).mono ?_
    rintro e w2 ⟨rfl, hc2⟩
    have h2 := h1.ch0 hc2
    have hs2 := hs1.ch0 hc2
    have hcv := conv_sl hs2
    have hln := putL_length l
    have hby := putL_bytes l
    have hrt := getL_putL l hwf
    have hne : putE l = if opsOk l then 0 else 1 := rfl
    obtain ⟨B, hB⟩ : ∃ B, B = putL l := ⟨_, rfl⟩
    rw [← hB] at hcv hs2 hln hby hrt
    obtain ⟨E, hE⟩ : ∃ E, E = putE l := ⟨_, rfl⟩
    rw [← hE] at hne
    simp only [← hB, ← hE]
    clear hs1 hv h1 hB hE h
    have HNE := Lib.hid hne; have HRT := Lib.hid hrt; clear hne hrt
    have hee : (E != E) = false := by simp
    have hss : ((strOfNums B).toList == (strOfNums B).toList) = true := by simp
    go_wp2_with fail
    with_reducible refine (ops_Get No w2 a1 c1 B hs2 hby (by omega) no_lt21).mono ?_
    rintro e w3 ⟨v3, rfl, hv3, hc3⟩
    obtain ⟨a3, c3, rfl, hs3⟩ := hv3.sl no_lt21
    dsimp only
    go_wp2_with fail
    with_reducible refine (fixed21 w3).mono ?_
    rintro e w4 ⟨rfl, hc4⟩
    dsimp only
    have hw4 := ((hc1.trans hc2).trans hc3).trans hc4
    cases hok : opsOk l with
    | true =>
      obtain rfl : E = 0 := by have := HNE.out; rw [if_pos hok] at this; exact this
      obtain ⟨r1, r2⟩ := HRT.out hok
      rw [r1] at hs3
      rw [r1, r2]
      clear hcv
      go_wp2_with fail
      with_reducible refine (ref21_Same w4 No No a3 a c3 c l (hs3.ch0 hc4) ((h2.ch0 hc3).ch0 hc4) (by omega)).mono ?_
      rintro e w5 ⟨rfl, hc5⟩
      dsimp only
      go_wp2_with fail
      go_ret
      exact ⟨rfl, hw4.trans hc5⟩
    | false =>
      obtain rfl : E = 1 := by have := HNE.out; rw [hok] at this; exact this
      clear hcv
      go_wp2_with fail
      go_ret
      exact ⟨rfl, hw4⟩
  · have hd : decide ((l.length : Int) > 100) = true := decide_eq_true (by omega)
    go_enter Try.func5, Try.ntmps5
    go_wp2_with fail
    with_reducible refine (fixed21 w).mono ?_
    rintro e w4 ⟨rfl, hc4⟩
    dsimp only
    go_wp2_with fail
    go_ret
    exact ⟨rfl, hc4⟩

end Go.Proofs.Ytlmaflhfedbmdaa

/- Layer 15 (tally): Swap. (Printed by wip/gen15s.py.) -/
import Derived.Test.YtinjbonodlkafaaTally
set_option linter.unusedVariables false
set_option linter.unusedSimpArgs false
namespace Go.Proofs.Ytinjbonodlkafaa
open Go Go.RowKit

theorem tSwap_arg {L : Rows} {o f : Int} (h : o < 0 ∨ f < 0) : tSwap L o f = (L, 1) := by unfold tSwap; rw [if_pos h]
theorem tSwap_no {L : Rows} {o f : Int} (h : ¬ (o < 0 ∨ f < 0)) (h2 : (o ≠ 0 ∧ cnt L o = 0) ∨ (f ≠ 0 ∧ f ≠ o ∧ cnt L f = 2147483647)) : tSwap L o f = (L, 8) := by unfold tSwap; rw [if_neg h, if_pos h2]
theorem tSwap_yes {L : Rows} {o f : Int} (h : ¬ (o < 0 ∨ f < 0)) (h2 : ¬ ((o ≠ 0 ∧ cnt L o = 0) ∨ (f ≠ 0 ∧ f ≠ o ∧ cnt L f = 2147483647))) :
    tSwap L o f = ((fun M => if f ≠ 0 then rset M f (cnt M f + 1) else M) (if o ≠ 0 then rset L o (cnt L o - 1) else L), 0) := by unfold tSwap; rw [if_neg h, if_neg h2]

set_option maxRecDepth 100000 in
theorem tally_Swap (w : World) (t m : Nat) (L : Rows) (o f : Int) (h : TallyAt w t m L) (ho : I64 o) (hf : I64 f) :
    Calls Try.prog 27 #[.pointer (some ⟨t, 0, none⟩), .int .i64 o, .int .i64 f] w fun e w' => e = .returned (.int .i64 (tSwap L o f).2) ∧ TallyAt w' t m (tSwap L o f).1 ∧ Ch (One m) w w' := by
  have htm := h.tm
  by_cases h1 : o < 0
  · have b1 : decide (o < 0) = true := decide_eq_true h1
    have HT := Lib.hid (tSwap_arg (L := L) (f := f) (.inl h1))
    clear h1
    go_enter Try.func27, Try.ntmps27
    go_wp2_with fail
    go_ret
    rw [HT.out]
    exact ⟨rfl, h, Ch.refl _ _⟩
  have b1 : decide (o < 0) = false := decide_eq_false h1
  by_cases h2 : f < 0
  · have b2 : decide (f < 0) = true := decide_eq_true h2
    have HT := Lib.hid (tSwap_arg (L := L) (o := o) (.inr h2))
    clear h1 h2
    go_enter Try.func27, Try.ntmps27
    go_wp2_with fail
    go_ret
    rw [HT.out]
    exact ⟨rfl, h, Ch.refl _ _⟩
  have b2 : decide (f < 0) = false := decide_eq_false h2
  have ho12 : ¬ (o < 0 ∨ f < 0) := fun z => z.elim h1 h2
  have hofo := tally_Of w t m L o h
  have hoff := tally_Of w t m L f h
  obtain ⟨co, hco⟩ : ∃ z, z = cnt L o := ⟨_, rfl⟩
  obtain ⟨cf, hcf⟩ : ∃ z, z = cnt L f := ⟨_, rfl⟩
  have cob := cnt_bd h.rise o
  have cfb := cnt_bd h.rise f
  rw [← hco] at hofo cob
  rw [← hcf] at hoff cfb
  have hcs := cnt_set h.rise o (co - 1) f
  by_cases ho0 : o = 0
  · have hc0 := trivial
    by_cases hf0 : f = 0
    · have d1 : (o != 0) = false := by simp [ho0]
      have d3 : (f != 0) = false := by simp [hf0]
      have hT := tSwap_yes (L := L) ho12 (by omega)
      rw [if_neg (by omega : ¬ o ≠ 0)] at hT
      dsimp only at hT
      rw [if_neg (by omega : ¬ f ≠ 0)] at hT
      have HT := Lib.hid hT
      clear h1 h2 ho12 hco hcf hcs ho0 hf0 hT
      go_enter Try.func27, Try.ntmps27
      go_wp2_with fail
      go_ret
      rw [HT.out]
      exact ⟨rfl, h, Ch.refl _ _⟩
    have hfo : f ≠ o := by omega
    by_cases hmx : cf = 2147483647
    · have d1 : (o != 0) = false := by simp [ho0]
      have d3 : (f != 0) = true := by simp [hf0]
      have d4 : (f != o) = true := by simp [hfo]
      have d5 : (cf == 2147483647) = true := by simp [hmx]
      have HT := Lib.hid (tSwap_no (L := L) ho12 (.inr ⟨hf0, hfo, by omega⟩))
      clear h1 h2 ho12 hco hcf hcs ho0 hf0 hfo hmx
      go_enter Try.func27, Try.ntmps27
      go_wp2_with fail
      with_reducible refine hoff.mono ?_
      rintro e w1 ⟨rfl, rfl⟩
      dsimp only
      go_wp2_with fail
      go_ret
      rw [HT.out]
      exact ⟨rfl, h, Ch.refl _ _⟩
    · have d1 : (o != 0) = false := by simp [ho0]
      have d3 : (f != 0) = true := by simp [hf0]
      have d4 : (f != o) = true := by simp [hfo]
      have d5 : (cf == 2147483647) = false := by simp [hmx]
      have hT := tSwap_yes (L := L) ho12 (by omega)
      rw [if_neg (by omega : ¬ o ≠ 0)] at hT
      dsimp only at hT
      rw [if_pos hf0] at hT
      rw [← hcf] at hT
      have e2 : IntKind.i64.wrap (cf + 1) = cf + 1 := IntWalk.i64_in _ (by omega)
      have hs2 := tally_set w t m L f (cf + 1) h (.inl (by omega)) hf (by omega)
      have HT := Lib.hid hT
      clear h1 h2 ho12 hco hcf hcs ho0 hf0 hfo hmx hT
      go_enter Try.func27, Try.ntmps27
      go_wp2_with fail
      with_reducible refine hoff.mono ?_
      rintro e w1 ⟨rfl, rfl⟩
      dsimp only
      go_wp2_with fail
      with_reducible refine hoff.mono ?_
      rintro e w1 ⟨rfl, rfl⟩
      dsimp only
      go_wp2_with fail
      with_reducible refine hs2.mono ?_
      rintro e w4 ⟨rfl, ht4, hc4⟩
      dsimp only
      go_wp2_with fail
      go_ret
      rw [HT.out]
      exact ⟨rfl, ht4, hc4⟩
  by_cases hc0 : co = 0
  · have d1 : (o != 0) = true := by simp [ho0]
    have d2 : (co == 0) = true := by simp [hc0]
    have HT := Lib.hid (tSwap_no (L := L) ho12 (.inl ⟨ho0, by omega⟩))
    clear h1 h2 ho12 hco hcf hcs ho0 hc0
    go_enter Try.func27, Try.ntmps27
    go_wp2_with fail
    with_reducible refine hofo.mono ?_
    rintro e w1 ⟨rfl, rfl⟩
    dsimp only
    go_wp2_with fail
    go_ret
    rw [HT.out]
    exact ⟨rfl, h, Ch.refl _ _⟩
  by_cases hf0 : f = 0
  · have d1 : (o != 0) = true := by simp [ho0]
    have d2 : (co == 0) = false := by simp [hc0]
    have d3 : (f != 0) = false := by simp [hf0]
    have hT := tSwap_yes (L := L) ho12 (by omega)
    rw [if_pos ho0, ← hco] at hT
    dsimp only at hT
    rw [if_neg (by omega : ¬ f ≠ 0)] at hT
    have e1 : IntKind.i64.wrap (co - 1) = co - 1 := IntWalk.i64_in _ (by omega)
    have hs1 := tally_set w t m L o (co - 1) h (.inl (by omega)) ho (by omega)
    have HT := Lib.hid hT
    clear h1 h2 ho12 hco hcf hcs ho0 hc0 hf0 hT
    go_enter Try.func27, Try.ntmps27
    go_wp2_with fail
    with_reducible refine hofo.mono ?_
    rintro e w1 ⟨rfl, rfl⟩
    dsimp only
    go_wp2_with fail
    with_reducible refine hofo.mono ?_
    rintro e w1 ⟨rfl, rfl⟩
    dsimp only
    go_wp2_with fail
    with_reducible refine hs1.mono ?_
    rintro e w2 ⟨rfl, ht2, hc2⟩
    dsimp only
    go_wp2_with fail
    go_ret
    rw [HT.out]
    exact ⟨rfl, ht2, hc2⟩
  by_cases hfo : f = o
  · have d1 : (o != 0) = true := by simp [ho0]
    have d2 : (co == 0) = false := by simp [hc0]
    have d3 : (f != 0) = true := by simp [hf0]
    have d4 : (f != o) = false := by simp [hfo]
    have hT := tSwap_yes (L := L) ho12 (by omega)
    rw [if_pos ho0, ← hco] at hT
    dsimp only at hT
    rw [if_pos hf0] at hT
    have e1 : IntKind.i64.wrap (co - 1) = co - 1 := IntWalk.i64_in _ (by omega)
    have hs1 := tally_set w t m L o (co - 1) h (.inl (by omega)) ho (by omega)
    obtain ⟨c9, hc9⟩ : ∃ z, z = cnt (rset L o (co - 1)) f := ⟨_, rfl⟩
    rw [← hc9] at hT hcs
    have hb9 : 0 ≤ c9 ∧ c9 ≤ 2147483646 := by rw [hcs]; split <;> omega
    have e2 : IntKind.i64.wrap (c9 + 1) = c9 + 1 := IntWalk.i64_in _ (by omega)
    have hs2 := fun W (hW : TallyAt W t m (rset L o (co - 1))) => tally_set W t m (rset L o (co - 1)) f (c9 + 1) hW (.inl (by omega)) hf (by omega)
    have hof9 := fun W (hW : TallyAt W t m (rset L o (co - 1))) => tally_Of W t m (rset L o (co - 1)) f hW
    rw [← hc9] at hof9
    have HT := Lib.hid hT
    clear h1 h2 ho12 hco hcf hcs ho0 hc0 hf0 hfo hT hc9
    go_enter Try.func27, Try.ntmps27
    go_wp2_with fail
    with_reducible refine hofo.mono ?_
    rintro e w1 ⟨rfl, rfl⟩
    dsimp only
    go_wp2_with fail
    with_reducible refine hofo.mono ?_
    rintro e w1 ⟨rfl, rfl⟩
    dsimp only
    go_wp2_with fail
    with_reducible refine hs1.mono ?_
    rintro e w2 ⟨rfl, ht2, hc2⟩
    dsimp only
    go_wp2_with fail
    with_reducible refine (hof9 w2 ht2).mono ?_
    rintro e w3 ⟨rfl, rfl⟩
    dsimp only
    go_wp2_with fail
    with_reducible refine (hs2 w2 ht2).mono ?_
    rintro e w4 ⟨rfl, ht4, hc4⟩
    dsimp only
    go_wp2_with fail
    go_ret
    rw [HT.out]
    exact ⟨rfl, ht4, hc2.trans hc4⟩
  by_cases hmx : cf = 2147483647
  · have d1 : (o != 0) = true := by simp [ho0]
    have d2 : (co == 0) = false := by simp [hc0]
    have d3 : (f != 0) = true := by simp [hf0]
    have d4 : (f != o) = true := by simp [hfo]
    have d5 : (cf == 2147483647) = true := by simp [hmx]
    have HT := Lib.hid (tSwap_no (L := L) ho12 (.inr ⟨hf0, hfo, by omega⟩))
    clear h1 h2 ho12 hco hcf hcs ho0 hc0 hf0 hfo hmx
    go_enter Try.func27, Try.ntmps27
    go_wp2_with fail
    with_reducible refine hofo.mono ?_
    rintro e w1 ⟨rfl, rfl⟩
    dsimp only
    go_wp2_with fail
    with_reducible refine hoff.mono ?_
    rintro e w1 ⟨rfl, rfl⟩
    dsimp only
    go_wp2_with fail
    go_ret
    rw [HT.out]
    exact ⟨rfl, h, Ch.refl _ _⟩
  · have d1 : (o != 0) = true := by simp [ho0]
    have d2 : (co == 0) = false := by simp [hc0]
    have d3 : (f != 0) = true := by simp [hf0]
    have d4 : (f != o) = true := by simp [hfo]
    have d5 : (cf == 2147483647) = false := by simp [hmx]
    have hT := tSwap_yes (L := L) ho12 (by omega)
    rw [if_pos ho0, ← hco] at hT
    dsimp only at hT
    rw [if_pos hf0] at hT
    have e1 : IntKind.i64.wrap (co - 1) = co - 1 := IntWalk.i64_in _ (by omega)
    have hs1 := tally_set w t m L o (co - 1) h (.inl (by omega)) ho (by omega)
    obtain ⟨c9, hc9⟩ : ∃ z, z = cnt (rset L o (co - 1)) f := ⟨_, rfl⟩
    rw [← hc9] at hT hcs
    have hb9 : 0 ≤ c9 ∧ c9 ≤ 2147483646 := by rw [hcs]; split <;> omega
    have e2 : IntKind.i64.wrap (c9 + 1) = c9 + 1 := IntWalk.i64_in _ (by omega)
    have hs2 := fun W (hW : TallyAt W t m (rset L o (co - 1))) => tally_set W t m (rset L o (co - 1)) f (c9 + 1) hW (.inl (by omega)) hf (by omega)
    have hof9 := fun W (hW : TallyAt W t m (rset L o (co - 1))) => tally_Of W t m (rset L o (co - 1)) f hW
    rw [← hc9] at hof9
    have HT := Lib.hid hT
    clear h1 h2 ho12 hco hcf hcs ho0 hc0 hf0 hfo hmx hT hc9
    go_enter Try.func27, Try.ntmps27
    go_wp2_with fail
    with_reducible refine hofo.mono ?_
    rintro e w1 ⟨rfl, rfl⟩
    dsimp only
    go_wp2_with fail
    with_reducible refine hoff.mono ?_
    rintro e w1 ⟨rfl, rfl⟩
    dsimp only
    go_wp2_with fail
    with_reducible refine hofo.mono ?_
    rintro e w1 ⟨rfl, rfl⟩
    dsimp only
    go_wp2_with fail
    with_reducible refine hs1.mono ?_
    rintro e w2 ⟨rfl, ht2, hc2⟩
    dsimp only
    go_wp2_with fail
    with_reducible refine (hof9 w2 ht2).mono ?_
    rintro e w3 ⟨rfl, rfl⟩
    dsimp only
    go_wp2_with fail
    with_reducible refine (hs2 w2 ht2).mono ?_
    rintro e w4 ⟨rfl, ht4, hc4⟩
    dsimp only
    go_wp2_with fail
    go_ret
    rw [HT.out]
    exact ⟨rfl, ht4, hc2.trans hc4⟩
end Go.Proofs.Ytinjbonodlkafaa

/- The document's answer for layer 15 (tally): Add, Swap. (Printed by wip/gen15r.py.) -/
import Derived.Test.YtinjbonodlkafaaRef15
set_option linter.unusedVariables false
set_option linter.unusedSimpArgs false
namespace Go.Proofs.Ytinjbonodlkafaa
open Go Go.RowKit

theorem ref15_Add (F : Nat → Prop) (w : World) (q : Option Addr) (c : Nat) (L : Rows) (k n : Int) (h : SlR (pairRp .i64) F w q c L) (hr : Rising L) (hk : I64 k) (hn : I64 n) (hL : L.length ≤ 100000) (hF : ∀ k, F k → k < w.heap.size) :
    Calls Try.prog 26 #[.slice q L.length c, .int .i64 k, .int .i64 n] w fun e w' => ∃ q' c', e = .returned (.tuple #[.slice q' (tAdd L k n).1.length c', .int .i64 (tAdd L k n).2]) ∧ SlR (pairRp .i64) F w' q' c' (tAdd L k n).1 ∧ Ch No w w' := by
  have hof := ref15_Of F w q c L k h hL
  obtain ⟨z, hz⟩ : ∃ z, z = cnt L k := ⟨_, rfl⟩
  have hcb := cnt_bd hr k
  have hbd := hn.bd
  rw [← hz] at hof hcb
  by_cases h1 : k < 1
  · have b1 : decide (k < 1) = true := decide_eq_true h1
    rw [show tAdd L k n = (L, 1) from by unfold tAdd; rw [if_pos h1]]
    clear h1 hz
    go_enter Try.func26, Try.ntmps26
    go_wp2_with fail
    go_ret2
    exact ⟨q, c, rfl, h, Ch.refl _ _⟩
  have b1 : decide (k < 1) = false := decide_eq_false h1
  have e1 : IntKind.i64.wrap (-z) = -z := IntWalk.i64_in _ (by omega)
  have e2 : IntKind.i64.wrap (2147483647 - z) = 2147483647 - z := IntWalk.i64_in _ (by omega)
  by_cases h2 : n < -z
  · have b2 : decide (n < -z) = true := decide_eq_true h2
    rw [show tAdd L k n = (L, 8) from by unfold tAdd; rw [if_neg h1, ← hz, if_pos (.inl h2)]]
    clear h1 hz h2
    go_enter Try.func26, Try.ntmps26
    go_wp2_with fail
    with_reducible refine hof.mono ?_
    rintro e w1 ⟨rfl, rfl⟩
    dsimp only
    go_wp2_with fail
    go_ret2
    exact ⟨q, c, rfl, h, Ch.refl _ _⟩
  have b2 : decide (n < -z) = false := decide_eq_false h2
  by_cases h3 : n > 2147483647 - z
  · have b3 : decide (n > 2147483647 - z) = true := decide_eq_true h3
    rw [show tAdd L k n = (L, 8) from by unfold tAdd; rw [if_neg h1, ← hz, if_pos (.inr h3)]]
    clear h1 hz h2 h3
    go_enter Try.func26, Try.ntmps26
    go_wp2_with fail
    with_reducible refine hof.mono ?_
    rintro e w1 ⟨rfl, rfl⟩
    dsimp only
    go_wp2_with fail
    go_ret2
    exact ⟨q, c, rfl, h, Ch.refl _ _⟩
  have b3 : decide (n > 2147483647 - z) = false := decide_eq_false h3
  have e3 : IntKind.i64.wrap (z + n) = z + n := IntWalk.i64_in _ (by omega)
  rw [show tAdd L k n = (rset L k (z + n), 0) from by unfold tAdd; rw [if_neg h1, ← hz, if_neg (by omega)]]
  have hst := ref15_Set F w q c L k (z + n) h hk (show _ ∧ _ from by omega) hL hF
  obtain ⟨R, hR⟩ : ∃ y, y = rset L k (z + n) := ⟨_, rfl⟩
  rw [← hR] at hst ⊢
  clear h1 hz h2 h3 hR
  go_enter Try.func26, Try.ntmps26
  go_wp2_with fail
  with_reducible refine hof.mono ?_
  rintro e w1 ⟨rfl, rfl⟩
  dsimp only
  go_wp2_with fail
  with_reducible refine hst.mono ?_
  rintro e w2 ⟨q', c', rfl, hs, hc⟩
  dsimp only
  go_wp2_with fail
  go_ret2
  exact ⟨q', c', rfl, hs, hc⟩

theorem tAdd_minus {L : Rows} (h : Rising L) {o : Int} (ho : 1 ≤ o) : tAdd L o (-1) = if cnt L o = 0 then (L, 8) else (rset L o (cnt L o - 1), 0) := by
  have := cnt_bd h o
  unfold tAdd
  rw [if_neg (by omega)]
  by_cases e : cnt L o = 0
  · rw [if_pos (by omega), if_pos e]
  · rw [if_neg (by omega), if_neg e]; rfl
theorem tAdd_plus {L : Rows} (h : Rising L) {f : Int} (hf : 1 ≤ f) : tAdd L f 1 = if cnt L f = 2147483647 then (L, 8) else (rset L f (cnt L f + 1), 0) := by
  have := cnt_bd h f
  unfold tAdd
  rw [if_neg (by omega)]
  by_cases e : cnt L f = 2147483647
  · rw [if_pos (by omega), if_pos e]
  · rw [if_neg (by omega), if_neg e]

set_option maxRecDepth 100000 in
theorem ref15_Swap (F : Nat → Prop) (w : World) (q : Option Addr) (c : Nat) (L : Rows) (o f : Int) (h : SlR (pairRp .i64) F w q c L) (hr : Rising L) (ho : I64 o) (hf : I64 f) (hL : L.length ≤ 10000) (hF : ∀ k, F k → k < w.heap.size) :
    Calls Try.prog 28 #[.slice q L.length c, .int .i64 o, .int .i64 f] w fun e w' => ∃ q' c', e = .returned (.tuple #[.slice q' (tSwap L o f).1.length c', .int .i64 (tSwap L o f).2]) ∧ SlR (pairRp .i64) F w' q' c' (tSwap L o f).1 ∧ Ch No w w' := by
  by_cases h1 : o < 0
  · have b1 : decide (o < 0) = true := decide_eq_true h1
    rw [show tSwap L o f = (L, 1) from by unfold tSwap; rw [if_pos (.inl h1)]]
    clear h1
    go_enter Try.func28, Try.ntmps28
    go_wp2_with fail
    go_ret2
    exact ⟨q, c, rfl, h, Ch.refl _ _⟩
  have b1 : decide (o < 0) = false := decide_eq_false h1
  by_cases h2 : f < 0
  · have b2 : decide (f < 0) = true := decide_eq_true h2
    rw [show tSwap L o f = (L, 1) from by unfold tSwap; rw [if_pos (.inr h2)]]
    clear h1 h2
    go_enter Try.func28, Try.ntmps28
    go_wp2_with fail
    go_ret2
    exact ⟨q, c, rfl, h, Ch.refl _ _⟩
  have b2 : decide (f < 0) = false := decide_eq_false h2
  have hnn : ¬ (o < 0 ∨ f < 0) := fun z => z.elim h1 h2
  have hm1 := cnt_bd hr o
  have hm2 := cnt_bd hr f
  have hcs := cnt_set hr o (cnt L o - 1) f
  have i1 : I64 (-1) := show _ ∧ _ from by omega
  have i2 : I64 1 := show _ ∧ _ from by omega
  by_cases ho0 : o = 0
  · by_cases hf0 : f = 0
    · have d1 : (o != 0) = false := by simp [ho0]
      have d3 : (f != 0) = false := by simp [hf0]
      rw [show tSwap L o f = (L, 0) from by unfold tSwap; rw [if_neg hnn, if_neg (by omega), if_neg (by omega : ¬ o ≠ 0)]; dsimp only; rw [if_neg (by omega : ¬ f ≠ 0)]]
      clear h1 h2 hnn hm1 hm2 hcs ho0 hf0
      go_enter Try.func28, Try.ntmps28
      go_wp2_with fail
      go_ret2
      exact ⟨q, c, rfl, h, Ch.refl _ _⟩
    by_cases hmx : cnt L f = 2147483647
    · have d1 : (o != 0) = false := by simp [ho0]
      have d3 : (f != 0) = true := by simp [hf0]
      have hB := ref15_Add F w q c L f 1 h hr hf i2 (by omega) hF
      rw [tAdd_plus hr (by omega), if_pos hmx] at hB
      rw [show tSwap L o f = (L, 8) from by unfold tSwap; rw [if_neg hnn, if_pos (.inr ⟨hf0, by omega, hmx⟩)]]
      clear h1 h2 hnn hm1 hm2 hcs ho0 hf0 hmx
      go_enter Try.func28, Try.ntmps28
      go_wp2_with fail
      with_reducible refine hB.mono ?_
      rintro e w3 ⟨q3, c3, rfl, hs3, hc3⟩
      dsimp only
      go_wp2_with fail
      go_ret2
      exact ⟨q, c, rfl, h.ch0 (hc3), hc3⟩
    · have d1 : (o != 0) = false := by simp [ho0]
      have d3 : (f != 0) = true := by simp [hf0]
      have hB := ref15_Add F w q c L f 1 h hr hf i2 (by omega) hF
      rw [tAdd_plus hr (by omega), if_neg hmx] at hB
      rw [show tSwap L o f = (rset L f (cnt L f + 1), 0) from by unfold tSwap; rw [if_neg hnn, if_neg (by omega), if_neg (by omega : ¬ o ≠ 0)]; dsimp only; rw [if_pos hf0]]
      obtain ⟨R, hR⟩ : ∃ y, y = rset L f (cnt L f + 1) := ⟨_, rfl⟩
      rw [← hR] at hB ⊢
      clear h1 h2 hnn hm1 hm2 hcs ho0 hf0 hmx hR
      go_enter Try.func28, Try.ntmps28
      go_wp2_with fail
      with_reducible refine hB.mono ?_
      rintro e w3 ⟨q3, c3, rfl, hs3, hc3⟩
      dsimp only
      go_wp2_with fail
      go_ret2
      exact ⟨q3, c3, rfl, hs3, hc3⟩
  by_cases hc0 : cnt L o = 0
  · have d1 : (o != 0) = true := by simp [ho0]
    have hA := ref15_Add F w q c L o (-1) h hr ho i1 (by omega) hF
    rw [tAdd_minus hr (by omega), if_pos hc0] at hA
    rw [show tSwap L o f = (L, 8) from by unfold tSwap; rw [if_neg hnn, if_pos (.inl ⟨ho0, hc0⟩)]]
    clear h1 h2 hnn hm1 hm2 hcs ho0 hc0
    go_enter Try.func28, Try.ntmps28
    go_wp2_with fail
    with_reducible refine hA.mono ?_
    rintro e w2 ⟨q2, c2, rfl, hs2, hc2⟩
    dsimp only
    go_wp2_with fail
    go_ret2
    exact ⟨q, c, rfl, h.ch0 hc2, hc2⟩
  by_cases hf0 : f = 0
  · have d1 : (o != 0) = true := by simp [ho0]
    have hA := ref15_Add F w q c L o (-1) h hr ho i1 (by omega) hF
    have hr2 : Rising (rset L o (cnt L o - 1)) := hr.set (by omega) (by have := ho.bd; omega) (by omega)
    have hl2 := rset_length L o (cnt L o - 1)
    rw [tAdd_minus hr (by omega), if_neg hc0] at hA
    obtain ⟨M, hM⟩ : ∃ y, y = rset L o (cnt L o - 1) := ⟨_, rfl⟩
    rw [← hM] at hA hr2 hl2 hcs
    have d3 : (f != 0) = false := by simp [hf0]
    rw [show tSwap L o f = (M, 0) from by unfold tSwap; rw [if_neg hnn, if_neg (by omega), if_pos ho0, ← hM]; dsimp only; rw [if_neg (by omega : ¬ f ≠ 0)]]
    clear h1 h2 hnn hm1 hm2 hcs ho0 hc0 hf0 hM hl2
    go_enter Try.func28, Try.ntmps28
    go_wp2_with fail
    with_reducible refine hA.mono ?_
    rintro e w2 ⟨q2, c2, rfl, hs2, hc2⟩
    dsimp only
    go_wp2_with fail
    go_ret2
    exact ⟨q2, c2, rfl, hs2, hc2⟩
  by_cases hmx : cnt (rset L o (cnt L o - 1)) f = 2147483647
  · have d1 : (o != 0) = true := by simp [ho0]
    have hA := ref15_Add F w q c L o (-1) h hr ho i1 (by omega) hF
    have hr2 : Rising (rset L o (cnt L o - 1)) := hr.set (by omega) (by have := ho.bd; omega) (by omega)
    have hl2 := rset_length L o (cnt L o - 1)
    rw [tAdd_minus hr (by omega), if_neg hc0] at hA
    obtain ⟨M, hM⟩ : ∃ y, y = rset L o (cnt L o - 1) := ⟨_, rfl⟩
    rw [← hM] at hA hr2 hl2 hcs hmx
    have d3 : (f != 0) = true := by simp [hf0]
    have hB := fun (W : World) (hW : w.heap.size ≤ W.heap.size) (q1 : Option Addr) (c1 : Nat) (hsW : SlR (pairRp .i64) F W q1 c1 M) => ref15_Add F W q1 c1 M f 1 hsW hr2 hf i2 (by omega) (fun k z => by have := hF k z; omega)
    rw [tAdd_plus hr2 (by omega), if_pos hmx] at hB
    rw [show tSwap L o f = (L, 8) from by unfold tSwap; rw [if_neg hnn, if_pos (.inr (by rw [hcs] at hmx; split at hmx <;> omega))]]
    clear h1 h2 hnn hm1 hm2 hcs ho0 hc0 hf0 hmx hM hl2
    go_enter Try.func28, Try.ntmps28
    go_wp2_with fail
    with_reducible refine hA.mono ?_
    rintro e w2 ⟨q2, c2, rfl, hs2, hc2⟩
    dsimp only
    go_wp2_with fail
    with_reducible refine (hB w2 hc2.size q2 c2 hs2).mono ?_
    rintro e w3 ⟨q3, c3, rfl, hs3, hc3⟩
    dsimp only
    go_wp2_with fail
    go_ret2
    exact ⟨q, c, rfl, h.ch0 (hc2.trans hc3), hc2.trans hc3⟩
  · have d1 : (o != 0) = true := by simp [ho0]
    have hA := ref15_Add F w q c L o (-1) h hr ho i1 (by omega) hF
    have hr2 : Rising (rset L o (cnt L o - 1)) := hr.set (by omega) (by have := ho.bd; omega) (by omega)
    have hl2 := rset_length L o (cnt L o - 1)
    rw [tAdd_minus hr (by omega), if_neg hc0] at hA
    obtain ⟨M, hM⟩ : ∃ y, y = rset L o (cnt L o - 1) := ⟨_, rfl⟩
    rw [← hM] at hA hr2 hl2 hcs hmx
    have d3 : (f != 0) = true := by simp [hf0]
    have hB := fun (W : World) (hW : w.heap.size ≤ W.heap.size) (q1 : Option Addr) (c1 : Nat) (hsW : SlR (pairRp .i64) F W q1 c1 M) => ref15_Add F W q1 c1 M f 1 hsW hr2 hf i2 (by omega) (fun k z => by have := hF k z; omega)
    rw [tAdd_plus hr2 (by omega), if_neg hmx] at hB
    rw [show tSwap L o f = (rset M f (cnt M f + 1), 0) from by unfold tSwap; rw [if_neg hnn, if_neg (by rw [hcs] at hmx; split at hmx <;> omega), if_pos ho0, ← hM]; dsimp only; rw [if_pos hf0]]
    obtain ⟨R, hR⟩ : ∃ y, y = rset M f (cnt M f + 1) := ⟨_, rfl⟩
    rw [← hR] at hB ⊢
    clear h1 h2 hnn hm1 hm2 hcs ho0 hc0 hf0 hmx hR hM hl2
    go_enter Try.func28, Try.ntmps28
    go_wp2_with fail
    with_reducible refine hA.mono ?_
    rintro e w2 ⟨q2, c2, rfl, hs2, hc2⟩
    dsimp only
    go_wp2_with fail
    with_reducible refine (hB w2 hc2.size q2 c2 hs2).mono ?_
    rintro e w3 ⟨q3, c3, rfl, hs3, hc3⟩
    dsimp only
    go_wp2_with fail
    go_ret2
    exact ⟨q3, c3, rfl, hs3, hc2.trans hc3⟩
end Go.Proofs.Ytinjbonodlkafaa

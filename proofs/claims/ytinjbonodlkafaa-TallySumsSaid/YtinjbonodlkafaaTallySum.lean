/- Law TallySums: its inner function, the sum of all counts. -/
import Derived.Test.YtinjbonodlkafaaLaw15
import Derived.Test.YtinjbonodlkafaaTallyPure2
set_option linter.unusedVariables false
set_option linter.unusedSimpArgs false
namespace Go.Proofs.Ytinjbonodlkafaa
open Go Go.RowKit

theorem total_take {L : Rows} {i : Nat} (h : i < L.length) : total (L.take (i + 1)) = total (L.take i) + L[i].2 := by
  rw [List.take_succ_eq_append_getElem h, total_append]
  simp [total]

set_option maxRecDepth 100000 in
theorem sum15 (w : World) (Bt t m : Nat) (L : Rows) (h : TallyAt w t m L) (hc : w.cell? ⟨Bt, 0, none⟩ = some (.pointer (some ⟨t, 0, none⟩))) (hl : L.length ≤ 1000) :
    Calls Try.prog 35 #[.pointer (some ⟨Bt, 0, none⟩)] w fun e w' => e = .returned (.int .i64 (total L)) ∧ Ch No w w' := by
  have hno : ∀ (n k : Nat), No k → k < n := fun _ _ z => z.elim
  have hall := tally_All No w t m L h (by omega) (hno _)
  have hr := h.rise
  go_enter Try.func35, Try.ntmps35
  go_wp2_with fail
  with_reducible refine hall.mono ?_
  rintro e w1 ⟨q, c, rfl, hs, hc1⟩
  dsimp only
  go_wp2_with fail
  go_loopw [2, 8] (fun v u wr => ∃ i : Nat, i ≤ L.length ∧ u = .int .i64 i ∧ v = .int .i64 (total (L.take i)) ∧ Ch No w1 wr) (fun _ u _ => L.length - (intOf u).toNat)
  case atStart => exact ⟨0, by omega, rfl, rfl, Ch.refl _ _⟩
  case round =>
    obtain ⟨i, hi, rfl, rfl, hC⟩ := hrel
    by_cases hlt : i < L.length
    · obtain ⟨bq, off, rfl, _, _, d0, d1, ix⟩ := (hs.ch0 hC).pair_at i hlt
      have htk := total_take hlt
      have hb1 : Rising (L.take (i + 1)) := ⟨List.Pairwise.sublist (List.take_sublist _ _) hr.up, fun x hx => hr.ok x (List.mem_of_mem_take hx)⟩
      have hb2 := total_bd hb1
      have hb3 : (L.take (i + 1)).length ≤ 1000 := by rw [List.length_take]; omega
      obtain ⟨x, hx⟩ : ∃ z, z = L[i] := ⟨_, rfl⟩
      obtain ⟨T0, hT0⟩ : ∃ z, z = total (L.take i) := ⟨_, rfl⟩
      obtain ⟨T1, hT1⟩ : ∃ z, z = total (L.take (i + 1)) := ⟨_, rfl⟩
      rw [← hx] at d0 d1 ix htk
      rw [← hT0, ← hT1] at htk
      rw [← hT1] at hb2
      obtain ⟨k, n⟩ := x
      dsimp only at d0 d1 htk
      have e1 : IntKind.i64.wrap (T0 + n) = T1 := by rw [htk]; exact IntWalk.i64_in _ (by omega)
      simp only [← hT0]
      have HT1 := Lib.hid hT1
      have HT0 := Lib.hid hT0
      clear hx htk hb2 hT0 hT1 hb3 hb1
      have hal : Ch No wr (wr.alloc (.cells #[.int .i64 k, .int .i64 n] 60)) := (Ch.refl _ _).alloc _
      have kA : (wr.alloc (.cells #[.int .i64 k, .int .i64 n] 60)).heap[wr.heap.size]? = some (.cells #[.int .i64 k, .int .i64 n] 60 (0, 0)) := World.alloc_heap_new _ _
      have a1 := cellOf kA 1 rfl
      go_wp2_with fail
      go_roundw
      case rel => exact ⟨i + 1, by omega, by go_num, by rw [HT1.out], hC.trans hal⟩
      case measure => exact meas_lt (by omega)
    · obtain rfl : i = L.length := by omega
      rw [List.take_length]
      go_wp2_with fail
      go_ret
      exact ⟨rfl, hc1.trans hC⟩
end Go.Proofs.Ytinjbonodlkafaa

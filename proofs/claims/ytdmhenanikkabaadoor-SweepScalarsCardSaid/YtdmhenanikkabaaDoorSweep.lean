/- Layer 18 (sweep): Target. -/
import Derived.Test.YtdmhenanikkabaaDoorObj
import Derived.Test.YtdmhenanikkabaaDoorDesc
import Derived.WalkSmall
set_option linter.unusedVariables false
set_option linter.unusedSimpArgs false
namespace Go.Proofs.YtdmhenanikkabaaDoor
open Go Go.RowKit

theorem target1 (w : World) (B : Nat) (v : Int) (o : Ob) (h : w.cell? ⟨B, 0, none⟩ = some (.int .u64 v)) (hv : 0 ≤ v ∧ v ≤ 18446744073709551615) (ia : I64 o.at_) :
    Calls Tryd.prog 26 #[.agg o.cells.toArray, .pointer (some ⟨B, 0, none⟩)] w fun e w' => e = .returned (.bool (hit v o)) ∧ Ch No w w' := by
  have hia : -9223372036854775808 ≤ o.at_ ∧ o.at_ ≤ 9223372036854775807 := ia
  unfold hit Ob.cells
  have hB := World.block_lt_of_cell? w _ h
  simp only at hB
  obtain ⟨w1, hw1⟩ : ∃ z, z = w.alloc (.cells #[.int .i64 o.at_, .int .i64 o.reg, .bool o.arr, .int .i64 o.hk, .int .i64 o.ht, .int .i64 o.hn, .slice o.ka o.kinds.length o.kc, .slice o.va o.vals.length o.vc] 30) := ⟨_, rfl⟩
  have hc1 : Ch No w w1 := by rw [hw1]; exact (Ch.refl _ _).alloc _
  have y := hc1.cell h (fun e => e)
  rw [hw1] at y
  clear hw1
  by_cases h1 : 0 ≤ o.at_
  · have b1 : decide (o.at_ ≥ 0) = true := decide_eq_true h1
    have e1 : IntKind.u64.wrap o.at_ = o.at_ := by rw [show IntKind.u64.wrap o.at_ = o.at_ % 18446744073709551616 from rfl]; omega
    rw [decide_eq_true h1, Bool.true_and]
    have b2 : (o.at_ == v) = decide (o.at_ = v) := by by_cases e : o.at_ = v <;> simp [e]
    clear h1
    go_enter Tryd.func26, Tryd.ntmps26
    go_wp2_with fail
    go_ret
    exact ⟨by rw [← b2]; rfl, (Ch.refl _ _).alloc _⟩
  · have b1 : decide (o.at_ ≥ 0) = false := decide_eq_false h1
    rw [decide_eq_false h1, Bool.false_and]
    clear h1
    go_enter Tryd.func26, Tryd.ntmps26
    go_wp2_with fail
    go_ret
    exact ⟨rfl, (Ch.refl _ _).alloc _⟩

set_option maxRecDepth 100000 in
theorem indexFunc (F : Nat → Prop) (w : World) (q : Option Addr) (c : Nat) (l : List Ob) (B : Nat) (v : Int) (hl : SlR objRp F w q c l) (hn : l.length ≤ 60) (h : w.cell? ⟨B, 0, none⟩ = some (.int .u64 v)) (hv : 0 ≤ v ∧ v ≤ 18446744073709551615) :
    Calls Tryd.prog 25 #[.slice q l.length c, .func (.func 26) #[] #[.pointer (some ⟨B, 0, none⟩)]] w fun e w' =>
      ((e = .returned (.int .i64 (-1)) ∧ ∀ o ∈ l, hit v o = false) ∨ ∃ (i : Nat) (hi : i < l.length), e = .returned (.int .i64 i) ∧ l.find? (hit v) = some l[i]) ∧ Ch No w w' := by
  go_enter Tryd.func25, Tryd.ntmps25
  go_wp2_with fail
  go_loopw [8] (fun u wr => ∃ (i : Nat), i ≤ l.length ∧ u = .int .i64 i ∧ (∀ j, ∀ hj : j < l.length, j < i → hit v l[j] = false) ∧ Ch No w wr) (fun u _ => l.length - (intOf u).toNat)
  case atStart => exact ⟨0, by omega, rfl, fun j _ hj => absurd hj (by omega), Ch.refl _ _⟩
  case round =>
    obtain ⟨i, hi, rfl, hno, hc⟩ := hrel
    by_cases hlt : i < l.length
    · obtain ⟨b, off, rfl, _, _, hcs, ia, ir, _, _⟩ := (hl.ch0 hc).obj_at i hlt
      have hfh := fun hh => find_here (p := hit v) hlt hh hno
      have hnx : hit v l[i] = false → ∀ j, ∀ hj : j < l.length, j < i + 1 → hit v l[j] = false := fun hh j hj hji => by
        by_cases e : j = i
        · subst e; exact hh
        · exact hno j hj (by omega)
      have HIX := Lib.hid (show ∃ hi : i < l.length, l[i] = l[i] from ⟨hlt, rfl⟩)
      obtain ⟨o, ho⟩ : ∃ z, z = l[i] := ⟨_, rfl⟩
      rw [← ho] at hcs ia ir hfh hnx
      have d0 := hcs 0 _ rfl
      have d1 := hcs 1 _ rfl
      have d2 := hcs 2 _ rfl
      have d3 := hcs 3 _ rfl
      have d4 := hcs 4 _ rfl
      have d5 := hcs 5 _ rfl
      have d6 := hcs 6 _ rfl
      have d7 := hcs 7 _ rfl
      rw [Nat.add_zero] at d0
      have ht := target1 wr B v o (hc.cell h (fun e => e)) hv ia
      simp only [Ob.cells] at ht
      have HNX := Lib.hid hnx
      have HFH := Lib.hid hfh
      have HO := Lib.hid ho
      clear hnx hfh ho hno hcs
      cases hh : hit v o with
      | true =>
        rw [hh] at ht
        have HH := Lib.hid hh
        clear hh
        go_wp2_with fail
        with_reducible refine ht.mono ?_
        rintro e w2 ⟨rfl, hc2⟩
        dsimp only
        go_wp2_with fail
        go_ret
        exact ⟨.inr ⟨i, hlt, rfl, by rw [HFH.out HH.out, HO.out]⟩, hc.trans hc2⟩
      | false =>
        rw [hh] at ht
        have HH := Lib.hid hh
        clear hh
        go_wp2_with fail
        with_reducible refine ht.mono ?_
        rintro e w2 ⟨rfl, hc2⟩
        dsimp only
        go_wp2_with fail
        go_roundw
        case rel => exact ⟨i + 1, by omega, by go_num, HNX.out HH.out, hc.trans hc2⟩
        case measure => exact meas_lt (by omega)
    · obtain rfl : i = l.length := by omega
      have HN := Lib.hid hno
      clear hno
      go_wp2_with fail
      go_ret
      refine ⟨.inl ⟨rfl, fun o ho => ?_⟩, hc⟩
      obtain ⟨j, hj, rfl⟩ := List.getElem_of_mem ho
      exact HN.out j hj hj

set_option maxRecDepth 100000 in
theorem sweep_Target (F : Nat → Prop) (w : World) (q : Option Addr) (c : Nat) (l : List Ob) (v : Int) (hl : SlR objRp F w q c l) (hn : l.length ≤ 60) (hv : 0 ≤ v ∧ v ≤ 18446744073709551615) :
    Calls Tryd.prog 19 #[.slice q l.length c, .int .u64 v] w fun e w' => e = .returned (.int .i64 (tgt l v)) ∧ Ch No w w' := by
  obtain ⟨w1, hw1⟩ : ∃ z, z = w.alloc (.cells #[.int .u64 v] 36) := ⟨_, rfl⟩
  obtain ⟨B, hB⟩ : ∃ z, z = w.heap.size := ⟨_, rfl⟩
  have hc1 : Ch No w w1 := by rw [hw1]; exact (Ch.refl _ _).alloc _
  have k0 : w1.heap[B]? = some (.cells #[.int .u64 v] 36 (0, 0)) := by rw [hw1, hB]; exact heap_alloc_new _ _
  have hix := indexFunc F w1 q c l B v (hl.ch0 hc1) hn (cellOf k0 0 rfl) hv
  have HW := Lib.hid hw1
  have HB := Lib.hid hB
  clear hw1 hB
  go_enter Tryd.func19, Tryd.ntmps19
  go_wp2_with fail
  rw [← HW.out, ← HB.out]
  with_reducible refine hix.mono ?_
  rintro e w2 ⟨hres, hc2⟩
  have y0 := hc2.cell (cellOf k0 0 rfl) (fun e => e)
  by_cases hv0 : v = 0
  · have b0 : (v == 0) = true := by simp [hv0]
    have ht : tgt l v = 0 := by rw [hv0]; exact tgt_zero l
    have HT := Lib.hid ht
    clear hv0 ht
    rcases hres with ⟨rfl, _⟩ | ⟨i, hi, rfl, _⟩
    · dsimp only
      go_wp2_with fail
      go_ret
      exact ⟨by rw [HT.out]; rfl, hc1.trans hc2⟩
    · dsimp only
      go_wp2_with fail
      go_ret
      exact ⟨by rw [HT.out]; rfl, hc1.trans hc2⟩
  · have b0 : (v == 0) = false := by simp [hv0]
    rcases hres with ⟨rfl, hno⟩ | ⟨i, hi, rfl, hf⟩
    · have HT := Lib.hid (tgt_none hno)
      clear hv0 hno
      dsimp only
      go_wp2_with fail
      go_ret
      exact ⟨by rw [HT.out]; rfl, hc1.trans hc2⟩
    · have ht := tgt_some hv0 hf
      obtain ⟨b, off, rfl, _, _, hcs, ia, ir, _, _⟩ := ((hl.ch0 hc1).ch0 hc2).obj_at i hi
      have d1 := hcs 1 _ rfl
      obtain ⟨r, hr⟩ : ∃ z, z = l[i].reg := ⟨_, rfl⟩
      rw [← hr] at d1 ht
      obtain ⟨M, hM⟩ : ∃ z, z = max r 0 := ⟨_, rfl⟩
      have b1 : decide ((i : Int) < 0) = false := decide_eq_false (by omega)
      have e1 : max r 0 = M := hM.symm
      rw [e1] at ht
      have HT := Lib.hid ht
      clear hv0 hf hr hcs hM ht
      dsimp only
      go_wp2_with fail
      go_ret
      exact ⟨by rw [HT.out]; rfl, hc1.trans hc2⟩
end Go.Proofs.YtdmhenanikkabaaDoor

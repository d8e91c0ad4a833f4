/- Layer 14 (annot): the law AnnotOutlived: the walk. -/
import Derived.Test.YtinjbonodlkafaaDoorLaw14
set_option linter.unusedVariables false
set_option linter.unusedSimpArgs false
namespace Go.Proofs.YtinjbonodlkafaaDoor
open Go Go.RowKit

set_option maxRecDepth 100000 in
set_option maxHeartbeats 4000000 in
theorem lived14 (w : World) (a : Option Addr) (c : Nat) (l : List TAct) (n : Int) (h : SlR tactRp No w a c l) (hn : 0 ≤ n ∧ n ≤ 255) (hW : Wt w) (hl : l.length ≤ 9223372036854775807) :
    Calls Tryd.prog 5 #[.slice a l.length c, .int .u8 n] w fun e w' => e = .returned (.bool true) ∧ Ch No w w' := by
  by_cases hcut : 60 < l.length
  · have b3 : decide ((l.length : Int) > 60) = true := decide_eq_true (by omega)
    go_enter Tryd.func5, Tryd.ntmps5
    go_wp2_with fail
    with_reducible refine (fixed14 _ hW).mono ?_
    rintro e w1 ⟨rfl, hc⟩
    dsimp only
    go_wp2_with fail
    go_ret
    exact ⟨rfl, hc⟩
  · have b3 : decide ((l.length : Int) > 60) = false := decide_eq_false (by omega)
    have hl60 : l.length ≤ 60 := by omega
    have hgl := hW.lt
    clear hcut hl
    have hm2 : n.tmod 2 = 0 ∨ n.tmod 2 = 1 := by rw [Int.tmod_eq_emod_of_nonneg hn.1]; omega
    rcases hm2 with e2 | e2
    · go_enter Tryd.func5, Tryd.ntmps5
      go_wp2_with fail
      with_reducible refine (grown14 No w a c l h hl60).mono ?_
      rintro e w1 ⟨t, m, L, bx, ox, cx, rfl, hT, ok, hL60, _, hm, hc1⟩
      have hW1 := hW.ch0 hc1
      have hnw : ¬ One m 0 := fun e => by have : 0 = m := e; omega
      have hnn : ∀ k, One m k → No k ∨ w.heap.size ≤ k := fun k e => .inr (by have : k = m := e; omega)
      have hml := hT.lt.2
      have hwk := fun W (hW : TreeAt W t m L) => tree_Walk (One m) W t m l.length L hW ok (by omega) (fun k e => by have : k = m := e; have := hW.lt; omega)
      have hmw := fun x => (mem_walk ok (k := x)).trans (hasB_true ok.up (k := x)).symm
      have hsl := walk_length ok
      obtain ⟨S, hS⟩ : ∃ z, z = sub L 0 := ⟨_, rfl⟩
      simp only [← hS] at hwk hsl hmw
      have hS60 : S.length ≤ 60 := by omega
      have HM := Lib.hid hmw
      have HSL := Lib.hid hsl
      clear hS hsl hmw
      dsimp only
      go_wp2_with fail
      with_reducible refine (hwk w1 hT).mono ?_
      rintro e w2 ⟨q, cq, rfl, hq2, hc2⟩
      have hT2 := hT.ch0 hc2
      have hW2 := hW1.ch0 hc2
      have hC2 := hc1.trans hc2
      dsimp only
      go_wp2_with fail
      go_loopw [31] (fun i wr => ∃ (k : Nat), k ≤ S.length ∧ i = .int .i64 k ∧ TreeAt wr t m L ∧ Ch (One m) w2 wr) (fun i _ => S.length - (intOf i).toNat)
      case atStart => exact ⟨0, by omega, rfl, hT2, Ch.refl _ _⟩
      case round =>
        obtain ⟨k, hk, rfl, hTr, hcr⟩ := hrel
        have hWr := hW2.ch hcr hnw
        by_cases hlt2 : k < S.length
        · obtain ⟨b, off, rfl, _, _, d0, ix⟩ := (hq2.ch hcr (fun k e => e)).int_at k hlt2
          have hxm : S[k] ∈ S := List.getElem_mem hlt2
          obtain ⟨x, hx⟩ : ∃ z, z = S[k] := ⟨_, rfl⟩
          rw [← hx] at d0 ix hxm
          have hbx : hasB L x = true := (HM.out x).1 hxm
          have htg := fun W (hW' : TreeAt W t m L) (hw' : Wt W) => annot_Targets (One m) W t m l.length L 2 x hW' ok (by omega) (fun k e => by have : k = m := e; have := hW'.lt; omega) hw' (show _ ∧ _ from by omega)
          have ht1 := fun W (hW' : TreeAt W t m L) (hw' : Wt W) => annot_Targets No W t m l.length L 1 x hW' ok (by omega) (fun _ e => e.elim) hw' (show _ ∧ _ from by omega)
          have hlc := tg_counted ok hbx
          rw [← HSL.out] at hlc
          simp only [hlc] at ht1
          have hbz := fun y => tg_busy ok (x := y) (k := 2) hbx (by omega)
          have htl := tg_length L 2 x
          have hin := tg_same ok hbx
          obtain ⟨A, hA⟩ : ∃ z, z = tg L 2 x := ⟨_, rfl⟩
          rw [← hA] at htl hin
          simp only [← hA] at htg hbz
          have hA60 : A.length ≤ 60 := by omega
          have HBZ := Lib.hid hbz
          have HIN := Lib.hid hin
          clear hx hxm hbx hA hbz hlc htl hin
          go_wp2_with fail
          with_reducible refine (htg wr hTr hWr).mono ?_
          rintro e w4 ⟨q4, c4, rfl, hq4, hc4⟩
          have hT4 := hTr.ch0 hc4
          have hW4 := hWr.ch0 hc4
          have hcr4 := hcr.then0 hc4
          dsimp only
          go_wp2_with fail
          go_loopw [41] (fun i wq => ∃ (j : Nat), j ≤ A.length ∧ i = .int .i64 j ∧ TreeAt wq t m L ∧ Ch (One m) w4 wq) (fun i _ => A.length - (intOf i).toNat)
          case atStart => exact ⟨0, by omega, rfl, hT4, Ch.refl _ _⟩
          case round =>
            obtain ⟨j, hj, rfl, hTq, hcq⟩ := hrel
            by_cases hlt3 : j < A.length
            · obtain ⟨b2, off2, rfl, _, _, d2, iy⟩ := (hq4.ch hcq (fun k e => e)).int_at j hlt3
              have hym : A[j] ∈ A := List.getElem_mem hlt3
              obtain ⟨y, hy⟩ : ∃ z, z = A[j] := ⟨_, rfl⟩
              rw [← hy] at d2 iy hym
              obtain ⟨hin, hou⟩ := HBZ.out y hym
              have v1 := tree_Within _ t m l.length L x y hTq ok (by omega)
              rw [hin] at v1
              have v2 := fun W (hW : TreeAt W t m L) => tree_Remove W t m l.length L y hW ok (by omega)
              have v3 := fun W => annot_Counts W 2 x y
              have e9 : (((2 : Int) == 1) && ((y != 0) && (y != x))) = false := rfl
              simp only [e9] at v3
              clear hy hym hin e9
              by_cases hyx : y = x
              · have b1 : (y != x) = false := by simp [hyx]
                clear hyx hou
                go_wp2_with fail
                with_reducible refine v1.mono ?_
                rintro e w5 ⟨rfl, hc5⟩
                dsimp only
                go_wp2_with fail
                with_reducible refine (v3 w5).mono ?_
                rintro e w6 ⟨rfl, rfl⟩
                dsimp only
                go_wp2_with fail
                go_roundw
                case rel => exact ⟨j + 1, by omega, by go_num, hTq.ch0 hc5, hcq.then0 hc5⟩
                case measure => exact meas_lt (by omega)
              · have b1 : (y != x) = true := by simp [hyx]
                simp only [hou hyx] at v2
                clear hyx hou
                go_wp2_with fail
                with_reducible refine v1.mono ?_
                rintro e w5 ⟨rfl, hc5⟩
                dsimp only
                go_wp2_with fail
                with_reducible refine (v2 w5 (hTq.ch0 hc5)).mono ?_
                rintro e w6 ⟨rfl, hT6, hc6⟩
                dsimp only
                go_wp2_with fail
                with_reducible refine (v3 w6).mono ?_
                rintro e w7 ⟨rfl, rfl⟩
                dsimp only
                go_wp2_with fail
                go_roundw
                case rel => exact ⟨j + 1, by omega, by go_num, hT6, (hcq.then0 hc5).trans hc6⟩
                case measure => exact meas_lt (by omega)
            · obtain rfl : j = A.length := by omega
              have hWq := hW4.ch hcq hnw
              have hqq := hq4.ch hcq (fun k e => e)
              have hA1 := HIN.out
              have hl1 : A.length = 1 := by rw [hA1]; rfl
              obtain ⟨b7, o7, rfl, _, _, d7, _⟩ := hqq.int_at 0 (by omega)
              have hx7 : A[0]'(by omega) = x := by simp [hA1]
              rw [hx7] at d7
              rw [Nat.add_zero] at d7
              rw [hl1]
              clear hx7 hA1
              go_wp2_with fail
              with_reducible refine (ht1 _ hTq hWq).mono ?_
              rintro e w5 ⟨q5, c5, rfl, _, hc5⟩
              dsimp only
              go_wp2_with fail
              with_reducible refine (hwk w5 (hTq.ch0 hc5)).mono ?_
              rintro e w6 ⟨q6, c6, rfl, _, hc6⟩
              dsimp only
              go_wp2_with fail
              go_roundw
              case rel => exact ⟨k + 1, by omega, by go_num, (hTq.ch0 hc5).ch0 hc6, ((hcr4.trans hcq).then0 hc5).then0 hc6⟩
              case measure => exact meas_lt (by omega)
        · obtain rfl : k = S.length := by omega
          go_wp2_with fail
          with_reducible refine (fixed14 _ hWr).mono ?_
          rintro e w5 ⟨rfl, hc5⟩
          dsimp only
          go_wp2_with fail
          go_ret
          exact ⟨rfl, (hC2.andThen hcr hnn).trans hc5⟩
    · go_enter Tryd.func5, Tryd.ntmps5
      go_wp2_with fail
      with_reducible refine (grown14 No w a c l h hl60).mono ?_
      rintro e w1 ⟨t, m, L, bx, ox, cx, rfl, hT, ok, hL60, _, hm, hc1⟩
      have hW1 := hW.ch0 hc1
      have hnw : ¬ One m 0 := fun e => by have : 0 = m := e; omega
      have hnn : ∀ k, One m k → No k ∨ w.heap.size ≤ k := fun k e => .inr (by have : k = m := e; omega)
      have hml := hT.lt.2
      have hwk := fun W (hW : TreeAt W t m L) => tree_Walk (One m) W t m l.length L hW ok (by omega) (fun k e => by have : k = m := e; have := hW.lt; omega)
      have hmw := fun x => (mem_walk ok (k := x)).trans (hasB_true ok.up (k := x)).symm
      have hsl := walk_length ok
      obtain ⟨S, hS⟩ : ∃ z, z = sub L 0 := ⟨_, rfl⟩
      simp only [← hS] at hwk hsl hmw
      have hS60 : S.length ≤ 60 := by omega
      have HM := Lib.hid hmw
      have HSL := Lib.hid hsl
      clear hS hsl hmw
      dsimp only
      go_wp2_with fail
      with_reducible refine (hwk w1 hT).mono ?_
      rintro e w2 ⟨q, cq, rfl, hq2, hc2⟩
      have hT2 := hT.ch0 hc2
      have hW2 := hW1.ch0 hc2
      have hC2 := hc1.trans hc2
      dsimp only
      go_wp2_with fail
      go_loopw [31] (fun i wr => ∃ (k : Nat), k ≤ S.length ∧ i = .int .i64 k ∧ TreeAt wr t m L ∧ Ch (One m) w2 wr) (fun i _ => S.length - (intOf i).toNat)
      case atStart => exact ⟨0, by omega, rfl, hT2, Ch.refl _ _⟩
      case round =>
        obtain ⟨k, hk, rfl, hTr, hcr⟩ := hrel
        have hWr := hW2.ch hcr hnw
        by_cases hlt2 : k < S.length
        · obtain ⟨b, off, rfl, _, _, d0, ix⟩ := (hq2.ch hcr (fun k e => e)).int_at k hlt2
          have hxm : S[k] ∈ S := List.getElem_mem hlt2
          obtain ⟨x, hx⟩ : ∃ z, z = S[k] := ⟨_, rfl⟩
          rw [← hx] at d0 ix hxm
          have hbx : hasB L x = true := (HM.out x).1 hxm
          have htg := fun W (hW' : TreeAt W t m L) (hw' : Wt W) => annot_Targets (One m) W t m l.length L 3 x hW' ok (by omega) (fun k e => by have : k = m := e; have := hW'.lt; omega) hw' (show _ ∧ _ from by omega)
          have ht1 := fun W (hW' : TreeAt W t m L) (hw' : Wt W) => annot_Targets No W t m l.length L 1 x hW' ok (by omega) (fun _ e => e.elim) hw' (show _ ∧ _ from by omega)
          have hlc := tg_counted ok hbx
          rw [← HSL.out] at hlc
          simp only [hlc] at ht1
          have hbz := fun y => tg_busy ok (x := y) (k := 3) hbx (by omega)
          have htl := tg_length L 3 x
          have hin := tg_self ok hbx (k := 3) (by omega)
          obtain ⟨A, hA⟩ : ∃ z, z = tg L 3 x := ⟨_, rfl⟩
          rw [← hA] at htl hin
          simp only [← hA] at htg hbz
          have hA60 : A.length ≤ 60 := by omega
          have HBZ := Lib.hid hbz
          have HIN := Lib.hid hin
          clear hx hxm hbx hA hbz hlc htl hin
          go_wp2_with fail
          with_reducible refine (htg wr hTr hWr).mono ?_
          rintro e w4 ⟨q4, c4, rfl, hq4, hc4⟩
          have hT4 := hTr.ch0 hc4
          have hW4 := hWr.ch0 hc4
          have hcr4 := hcr.then0 hc4
          dsimp only
          go_wp2_with fail
          go_loopw [41] (fun i wq => ∃ (j : Nat), j ≤ A.length ∧ i = .int .i64 j ∧ TreeAt wq t m L ∧ Ch (One m) w4 wq) (fun i _ => A.length - (intOf i).toNat)
          case atStart => exact ⟨0, by omega, rfl, hT4, Ch.refl _ _⟩
          case round =>
            obtain ⟨j, hj, rfl, hTq, hcq⟩ := hrel
            by_cases hlt3 : j < A.length
            · obtain ⟨b2, off2, rfl, _, _, d2, iy⟩ := (hq4.ch hcq (fun k e => e)).int_at j hlt3
              have hym : A[j] ∈ A := List.getElem_mem hlt3
              obtain ⟨y, hy⟩ : ∃ z, z = A[j] := ⟨_, rfl⟩
              rw [← hy] at d2 iy hym
              obtain ⟨hin, hou⟩ := HBZ.out y hym
              have v1 := tree_Within _ t m l.length L x y hTq ok (by omega)
              rw [hin] at v1
              have v2 := fun W (hW : TreeAt W t m L) => tree_Remove W t m l.length L y hW ok (by omega)
              have v3 := fun W => annot_Counts W 3 x y
              have e9 : (((3 : Int) == 1) && ((y != 0) && (y != x))) = false := rfl
              simp only [e9] at v3
              clear hy hym hin e9
              by_cases hyx : y = x
              · have b1 : (y != x) = false := by simp [hyx]
                clear hyx hou
                go_wp2_with fail
                with_reducible refine v1.mono ?_
                rintro e w5 ⟨rfl, hc5⟩
                dsimp only
                go_wp2_with fail
                with_reducible refine (v3 w5).mono ?_
                rintro e w6 ⟨rfl, rfl⟩
                dsimp only
                go_wp2_with fail
                go_roundw
                case rel => exact ⟨j + 1, by omega, by go_num, hTq.ch0 hc5, hcq.then0 hc5⟩
                case measure => exact meas_lt (by omega)
              · have b1 : (y != x) = true := by simp [hyx]
                simp only [hou hyx] at v2
                clear hyx hou
                go_wp2_with fail
                with_reducible refine v1.mono ?_
                rintro e w5 ⟨rfl, hc5⟩
                dsimp only
                go_wp2_with fail
                with_reducible refine (v2 w5 (hTq.ch0 hc5)).mono ?_
                rintro e w6 ⟨rfl, hT6, hc6⟩
                dsimp only
                go_wp2_with fail
                with_reducible refine (v3 w6).mono ?_
                rintro e w7 ⟨rfl, rfl⟩
                dsimp only
                go_wp2_with fail
                go_roundw
                case rel => exact ⟨j + 1, by omega, by go_num, hT6, (hcq.then0 hc5).trans hc6⟩
                case measure => exact meas_lt (by omega)
            · obtain rfl : j = A.length := by omega
              have hWq := hW4.ch hcq hnw
              have hqq := hq4.ch hcq (fun k e => e)
              have hpos := List.length_pos_of_mem HIN.out
              have b7 : decide ((A.length : Int) < 1) = false := decide_eq_false (by omega)
              clear hpos
              go_wp2_with fail
              with_reducible refine (ht1 _ hTq hWq).mono ?_
              rintro e w5 ⟨q5, c5, rfl, _, hc5⟩
              dsimp only
              go_wp2_with fail
              with_reducible refine (hwk w5 (hTq.ch0 hc5)).mono ?_
              rintro e w6 ⟨q6, c6, rfl, _, hc6⟩
              dsimp only
              go_wp2_with fail
              go_roundw
              case rel => exact ⟨k + 1, by omega, by go_num, (hTq.ch0 hc5).ch0 hc6, ((hcr4.trans hcq).then0 hc5).then0 hc6⟩
              case measure => exact meas_lt (by omega)
        · obtain rfl : k = S.length := by omega
          go_wp2_with fail
          with_reducible refine (fixed14 _ hWr).mono ?_
          rintro e w5 ⟨rfl, hc5⟩
          dsimp only
          go_wp2_with fail
          go_ret
          exact ⟨rfl, (hC2.andThen hcr hnn).trans hc5⟩
end Go.Proofs.YtinjbonodlkafaaDoor

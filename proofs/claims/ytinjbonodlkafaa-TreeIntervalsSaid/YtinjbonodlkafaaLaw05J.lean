/- Layer 5 (tree): the law TreeIntervals: the walk. -/
import Derived.Test.YtinjbonodlkafaaLaw05I
set_option linter.unusedVariables false
set_option linter.unusedSimpArgs false
namespace Go.Proofs.Ytinjbonodlkafaa
open Go Go.RowKit

set_option maxRecDepth 100000 in
set_option maxHeartbeats 4000000 in
theorem ivals05 (w : World) (a : Option Addr) (c : Nat) (l : List TAct) (h : SlR tactRp No w a c l) (hl : l.length ≤ 9223372036854775807) :
    Calls Try.prog 9 #[.slice a l.length c] w fun e w' => e = .returned (.bool true) ∧ Ch No w w' := by
  by_cases hcut : 60 < l.length
  · have b3 : decide ((l.length : Int) > 60) = true := decide_eq_true (by omega)
    go_enter Try.func9, Try.ntmps9
    go_wp2_with fail
    with_reducible refine (fixed05 _).mono ?_
    rintro e w1 ⟨rfl, hc⟩
    dsimp only
    go_wp2_with fail
    go_ret
    exact ⟨rfl, hc⟩
  · have b3 : decide ((l.length : Int) > 60) = false := decide_eq_false (by omega)
    have hl60 : l.length ≤ 60 := by omega
    clear hcut hl
    go_enter Try.func9, Try.ntmps9
    go_wp2_with fail
    with_reducible refine (tree_New w).mono ?_
    rintro e w1 ⟨t, m, rfl, hT1, ht, hm, hc1⟩
    have hnn : ∀ k, One m k → No k ∨ w.heap.size ≤ k := fun k e => .inr (by have : k = m := e; omega)
    dsimp only
    go_wp2_with fail
    go_loopw [31] (fun i wr => ∃ (k : Nat) (L : TRows), k ≤ l.length ∧ i = .int .i64 k ∧ TreeAt wr t m L ∧ TreeOk L k ∧ L.length ≤ k ∧ Ch No w wr) (fun i _ => l.length - (intOf i).toNat)
    case atStart => exact ⟨0, [], by omega, rfl, hT1, TreeOk.nil, by simp, hc1⟩
    case round =>
      obtain ⟨k, L, hk, rfl, hT, ok, hLk, hc⟩ := hrel
      clear hT1 hc1
      by_cases hlt : k < l.length
      · obtain ⟨b, off, rfl, _, d0, d1, d2, ia, ib⟩ := (h.ch0 hc).tact_at k hlt
        obtain ⟨A, hA⟩ : ∃ A, A = l[k] := ⟨_, rfl⟩
        rw [← hA] at d0 d1 d2 ia ib
        clear hA h
        have oka := tAct_ok ok A ia (by omega)
        have hal := tAct_length L A
        obtain ⟨x, p, o⟩ := A
        dsimp only at d0 d1 d2 ia ib
        have hca : Ch No wr (wr.alloc (.cells #[.int .i64 x, .int .i64 p, .bool o] 68)) := (Ch.refl _ _).alloc _
        cases o with
        | true =>
          rw [show tAct L ⟨x, p, true⟩ = tOut L x from rfl] at oka hal
          have hcl := tree_Remove _ t m k L x (hT.ch0 hca) ok (by omega)
          obtain ⟨L2, hL2⟩ : ∃ z, z = (tOut L x).1 := ⟨_, rfl⟩
          rw [← hL2] at oka hal
          simp only [← hL2] at hcl
          clear hL2
          go_wp2_with fail
          with_reducible refine hcl.mono ?_
          rintro e w2 ⟨rfl, hT2, hc2⟩
          dsimp only
          go_wp2_with fail
          go_roundw
          case rel => exact ⟨k + 1, L2, by omega, by go_num, hT2, oka, by omega, (hc.trans hca).andThen hc2 hnn⟩
          case measure => exact meas_lt (by omega)
        | false =>
          rw [show tAct L ⟨x, p, false⟩ = tPut L x p from rfl] at oka hal
          have hcl := tree_Add _ t m k L x p (hT.ch0 hca) ok
          obtain ⟨L2, hL2⟩ : ∃ z, z = (tPut L x p).1 := ⟨_, rfl⟩
          rw [← hL2] at oka hal
          simp only [← hL2] at hcl
          clear hL2
          go_wp2_with fail
          with_reducible refine hcl.mono ?_
          rintro e w2 ⟨rfl, hT2, hc2⟩
          dsimp only
          go_wp2_with fail
          go_roundw
          case rel => exact ⟨k + 1, L2, by omega, by go_num, hT2, oka, by omega, (hc.trans hca).andThen hc2 hnn⟩
          case measure => exact meas_lt (by omega)
      · obtain rfl : k = l.length := by omega
        have hL60 : L.length ≤ 60 := by omega
        have hwk := tree_Walk No wr t m l.length L hT ok (by omega) (fun _ e => e.elim)
        have hsl := walk_length ok
        have c1 := fun x W (hW : TreeAt W t m L) => tree_Interval_any W t m _ L x hW ok (by omega)
        have c2 := fun x y W (hW : TreeAt W t m L) => tree_Within W t m _ L x y hW ok (by omega)
        have c3 := fun x W (hW : TreeAt W t m L) => tree_Parent W t m L x hW
        have c4 := fun x W (hW : TreeAt W t m L) => tree_Has W t m L x hW
        have hof := fun x => iv_of (L := L) ok (a := x)
        have hcs := fun x y => iv_cases (L := L) ok (a := x) (b := y)
        have hbd := fun x => at_bd (L := L) ok (a := x)
        have hao : ∀ (i : Nat) (x : Int), (sub L 0)[i]? = some x → at_ L x = i := fun i x e => by
          obtain ⟨hi, rfl⟩ := List.getElem?_eq_some_iff.1 e
          exact at_of ok hi
        have hmt := fun x => met_of (L := L) ok x
        have hi64 := ids_I64 ok 0
        obtain ⟨S, hS⟩ : ∃ z, z = sub L 0 := ⟨_, rfl⟩
        simp only [← hS] at hwk hsl hof hcs hbd hao hmt hi64
        have hS60 : S.length ≤ 60 := by omega
        have HO := Lib.hid hof
        have HCS := Lib.hid hcs
        have HBD := Lib.hid hbd
        have HAO := Lib.hid hao
        have HMT := Lib.hid hmt
        clear hS hsl hof hcs hbd hao hmt
        go_wp2_with fail
        with_reducible refine hwk.mono ?_
        rintro e w2 ⟨q, cq, rfl, hq2, hc2⟩
        have hT2 := hT.ch0 hc2
        have hC2 := hc.trans hc2
        clear hwk
        dsimp only
        go_wp2_with fail
        go_loopw [52] (fun i wr => ∃ (k : Nat), k ≤ S.length ∧ i = .int .i64 k ∧ Ch No w2 wr) (fun i _ => S.length - (intOf i).toNat)
        case atStart => exact ⟨0, by omega, rfl, Ch.refl _ _⟩
        case round =>
          obtain ⟨k, hk, rfl, hcr⟩ := hrel
          by_cases hlt2 : k < S.length
          · obtain ⟨b, off, rfl, _, _, d0, ix⟩ := (hq2.ch0 hcr).int_at k hlt2
            have hxm : S[k] ∈ S := List.getElem_mem hlt2
            have hat := HAO.out k _ (List.getElem?_eq_getElem hlt2)
            obtain ⟨x, hx⟩ : ∃ z, z = S[k] := ⟨_, rfl⟩
            rw [← hx] at d0 ix hxm hat
            have c1x := c1 x
            rw [(HO.out x hxm).1, (HO.out x hxm).2] at c1x
            dsimp only at c1x
            have hbx := HBD.out x hxm
            obtain ⟨X, hX⟩ : ∃ z : Int, z = ((at_ L x : Nat) : Int) := ⟨_, rfl⟩
            obtain ⟨N, hN⟩ : ∃ z : Int, z = ((1 + (sub L x).length : Nat) : Int) := ⟨_, rfl⟩
            simp only [← hX, ← hN] at c1x
            have hXN : 0 ≤ X ∧ 1 ≤ N ∧ X + N ≤ S.length := by omega
            have e1 : IntKind.i64.wrap (X + N) = X + N := IntWalk.i64_in _ (by omega)
            have b5 : (X != (k : Int)) = false := by rw [show X = k from by omega]; simp
            have b6 : decide (N < 1) = false := decide_eq_false (by omega)
            have b7 : decide (X + N > (S.length : Int)) = false := decide_eq_false (by omega)
            have HX := Lib.hid hX
            have HN := Lib.hid hN
            clear hx hat hX hN
            go_wp2_with fail
            with_reducible refine (c1x wr (hT2.ch0 hcr)).mono ?_
            rintro e w3 ⟨rfl, hc3⟩
            obtain ⟨C9, hC9⟩ : ∃ z, z = w3.heap.size := ⟨_, rfl⟩
            obtain ⟨w4, hw4⟩ : ∃ z, z = w3.alloc (.cells #[.int .i64 X, .int .i64 N] 60) := ⟨_, rfl⟩
            have hc4 : Ch No w3 w4 := by rw [hw4]; exact (Ch.refl _ _).alloc _
            have k9 : w4.heap[C9]? = some (.cells #[.int .i64 X, .int .i64 N] 60 (0, 0)) := by rw [hw4, hC9]; exact heap_alloc_new _ _
            have HC9 := Lib.hid hC9
            have HW4 := Lib.hid hw4
            clear hC9 hw4
            have hT4 := ((hT2.ch0 hcr).ch0 hc3).ch0 hc4
            have hq4 := ((hq2.ch0 hcr).ch0 hc3).ch0 hc4
            have hC4 := (hcr.trans hc3).trans hc4
            dsimp only
            go_wp2_with fail
            rw [← HC9.out, ← HW4.out]
            go_loopw [88] (fun i wr => ∃ (j : Nat), j ≤ S.length ∧ i = .int .i64 j ∧ Ch No w4 wr) (fun i _ => S.length - (intOf i).toNat)
            case atStart => exact ⟨0, by omega, rfl, Ch.refl _ _⟩
            case round =>
              obtain ⟨j, hj, rfl, hcq⟩ := hrel
              by_cases hlt3 : j < S.length
              · obtain ⟨b2, off2, hqq, _, _, d2, iy⟩ := (hq4.ch0 hcq).int_at j hlt3
                obtain ⟨rfl, rfl⟩ : b = b2 ∧ off = off2 := by cases hqq; exact ⟨rfl, rfl⟩
                have hym : S[j] ∈ S := List.getElem_mem hlt3
                obtain ⟨y, hy⟩ : ∃ z, z = S[j] := ⟨_, rfl⟩
                rw [← hy] at d2 iy hym
                have c1y := c1 y
                rw [(HO.out y hym).1, (HO.out y hym).2] at c1y
                dsimp only at c1y
                have hby := HBD.out y hym
                have hcs := HCS.out x y hxm hym
                obtain ⟨Y, hY⟩ : ∃ z : Int, z = ((at_ L y : Nat) : Int) := ⟨_, rfl⟩
                obtain ⟨M, hM⟩ : ∃ z : Int, z = ((1 + (sub L y).length : Nat) : Int) := ⟨_, rfl⟩
                simp only [← hY, ← hM] at c1y
                have hYM : 0 ≤ Y ∧ 1 ≤ M ∧ Y + M ≤ S.length := by omega
                have e2 : IntKind.i64.wrap (Y + M) = Y + M := IntWalk.i64_in _ (by omega)
                have hXN2 : X = ((at_ L x : Nat) : Int) ∧ N = ((1 + (sub L x).length : Nat) : Int) := ⟨HX.out, HN.out⟩
                have hca : ∀ W, Ch No W (W.alloc (.cells #[.int .i64 Y, .int .i64 M] 60)) := fun W => (Ch.refl _ _).alloc _
                have hk9 : ∀ W, Ch No w4 W → (W.alloc (.cells #[.int .i64 Y, .int .i64 M] 60)).cell? ⟨C9, 0, none⟩ = some (.int .i64 X) ∧ (W.alloc (.cells #[.int .i64 Y, .int .i64 M] 60)).cell? ⟨C9, 1, none⟩ = some (.int .i64 N) := fun W hW => ⟨cellOf (heap_al (hW.heap k9 (fun e => e)) _) 0 rfl, cellOf (heap_al (hW.heap k9 (fun e => e)) _) 1 rfl⟩
                have p3 := c3 x
                have v1 := c2 x y
                have v2 := c2 y x
                obtain ⟨P, hP⟩ : ∃ z, z = (pget L x).getD 0 := ⟨_, rfl⟩
                simp only [← hP] at p3 hcs
                rcases hcs with ⟨hin, g1, g2⟩ | ⟨hin, hin2, hpb, g1, g2⟩ | ⟨hin, hpb, g⟩
                · rw [hin] at v1
                  have b1 : decide (X ≥ Y) = true := decide_eq_true (by omega)
                  have b2 : decide (X + N ≤ Y + M) = true := decide_eq_true (by omega)
                  have b3 : decide (X ≥ Y + M) = false := decide_eq_false (by omega)
                  have b4 : decide (Y ≥ X + N) = false := decide_eq_false (by omega)
                  clear hy hbx hby hY hM hXN hYM hXN2 hP g1 g2 v2 hin b5 b6 b7
                  by_cases hpe : P = y
                  · have b8 : (P == y) = true := by simp [hpe]
                    clear hpe
                    go_wp2_with fail
                    with_reducible refine (c1y wr (hT4.ch0 hcq)).mono ?_
                    rintro e w5 ⟨rfl, hc5⟩
                    have hcq5 := hcq.trans hc5
                    obtain ⟨y0, y1⟩ := hk9 w5 hcq5
                    have hT6 := (hT4.ch0 hcq5).ch0 (hca w5)
                    have hcq6 := hcq5.trans (hca w5)
                    dsimp only
                    go_wp2_with fail
                    with_reducible refine (v1 _ hT6).mono ?_
                    rintro e w7 ⟨rfl, hc7⟩
                    have hT7 := hT6.ch0 hc7
                    have hcq7 := hcq6.trans hc7
                    dsimp only
                    go_wp2_with fail
                    with_reducible refine (p3 w7 hT7).mono ?_
                    rintro e w9 ⟨rfl, rfl⟩
                    dsimp only
                    go_wp2_with fail
                    go_roundw
                    case rel => exact ⟨j + 1, by omega, by go_num, hcq7⟩
                    case measure => exact meas_lt (by omega)
                  · have b8 : (P == y) = false := by simp [hpe]
                    clear hpe
                    go_wp2_with fail
                    with_reducible refine (c1y wr (hT4.ch0 hcq)).mono ?_
                    rintro e w5 ⟨rfl, hc5⟩
                    have hcq5 := hcq.trans hc5
                    obtain ⟨y0, y1⟩ := hk9 w5 hcq5
                    have hT6 := (hT4.ch0 hcq5).ch0 (hca w5)
                    have hcq6 := hcq5.trans (hca w5)
                    dsimp only
                    go_wp2_with fail
                    with_reducible refine (v1 _ hT6).mono ?_
                    rintro e w7 ⟨rfl, hc7⟩
                    have hT7 := hT6.ch0 hc7
                    have hcq7 := hcq6.trans hc7
                    dsimp only
                    go_wp2_with fail
                    with_reducible refine (p3 w7 hT7).mono ?_
                    rintro e w9 ⟨rfl, rfl⟩
                    dsimp only
                    go_wp2_with fail
                    go_roundw
                    case rel => exact ⟨j + 1, by omega, by go_num, hcq7⟩
                    case measure => exact meas_lt (by omega)
                · rw [hin] at v1
                  rw [hin2] at v2
                  have b1 : decide (X ≥ Y) = false := decide_eq_false (by omega)
                  have b3 : decide (X ≥ Y + M) = false := decide_eq_false (by omega)
                  have b4 : decide (Y ≥ X + N) = false := decide_eq_false (by omega)
                  have b8 : (P == y) = false := by simp [hpb]
                  clear hy hbx hby hY hM hXN hYM hXN2 hP g1 g2 hin hin2 hpb b5 b6 b7
                  go_wp2_with fail
                  with_reducible refine (c1y wr (hT4.ch0 hcq)).mono ?_
                  rintro e w5 ⟨rfl, hc5⟩
                  have hcq5 := hcq.trans hc5
                  obtain ⟨y0, y1⟩ := hk9 w5 hcq5
                  have hT6 := (hT4.ch0 hcq5).ch0 (hca w5)
                  have hcq6 := hcq5.trans (hca w5)
                  dsimp only
                  go_wp2_with fail
                  with_reducible refine (v1 _ hT6).mono ?_
                  rintro e w7 ⟨rfl, hc7⟩
                  have hT7 := hT6.ch0 hc7
                  have hcq7 := hcq6.trans hc7
                  dsimp only
                  go_wp2_with fail
                  with_reducible refine (v2 w7 hT7).mono ?_
                  rintro e w8 ⟨rfl, hc8⟩
                  have hT7 := hT7.ch0 hc8
                  have hcq7 := hcq7.trans hc8
                  dsimp only
                  go_wp2_with fail
                  with_reducible refine (p3 w8 hT7).mono ?_
                  rintro e w9 ⟨rfl, rfl⟩
                  dsimp only
                  go_wp2_with fail
                  go_roundw
                  case rel => exact ⟨j + 1, by omega, by go_num, hcq7⟩
                  case measure => exact meas_lt (by omega)
                · rw [hin] at v1
                  have b8 : (P == y) = false := by simp [hpb]
                  rcases g with g | g
                  · have b1 : decide (X ≥ Y) = true := decide_eq_true (by omega)
                    have b2 : decide (X + N ≤ Y + M) = false := decide_eq_false (by omega)
                    have b3 : decide (X ≥ Y + M) = true := decide_eq_true (by omega)
                    clear hy hbx hby hY hM hXN hYM hXN2 hP g v2 hin hpb b5 b6 b7
                    go_wp2_with fail
                    with_reducible refine (c1y wr (hT4.ch0 hcq)).mono ?_
                    rintro e w5 ⟨rfl, hc5⟩
                    have hcq5 := hcq.trans hc5
                    obtain ⟨y0, y1⟩ := hk9 w5 hcq5
                    have hT6 := (hT4.ch0 hcq5).ch0 (hca w5)
                    have hcq6 := hcq5.trans (hca w5)
                    dsimp only
                    go_wp2_with fail
                    with_reducible refine (v1 _ hT6).mono ?_
                    rintro e w7 ⟨rfl, hc7⟩
                    have hT7 := hT6.ch0 hc7
                    have hcq7 := hcq6.trans hc7
                    dsimp only
                    go_wp2_with fail
                    with_reducible refine (p3 w7 hT7).mono ?_
                    rintro e w9 ⟨rfl, rfl⟩
                    dsimp only
                    go_wp2_with fail
                    go_roundw
                    case rel => exact ⟨j + 1, by omega, by go_num, hcq7⟩
                    case measure => exact meas_lt (by omega)
                  · have b1 : decide (X ≥ Y) = false := decide_eq_false (by omega)
                    have b3 : decide (X ≥ Y + M) = false := decide_eq_false (by omega)
                    have b4 : decide (Y ≥ X + N) = true := decide_eq_true (by omega)
                    clear hy hbx hby hY hM hXN hYM hXN2 hP g v2 hin hpb b5 b6 b7
                    go_wp2_with fail
                    with_reducible refine (c1y wr (hT4.ch0 hcq)).mono ?_
                    rintro e w5 ⟨rfl, hc5⟩
                    have hcq5 := hcq.trans hc5
                    obtain ⟨y0, y1⟩ := hk9 w5 hcq5
                    have hT6 := (hT4.ch0 hcq5).ch0 (hca w5)
                    have hcq6 := hcq5.trans (hca w5)
                    dsimp only
                    go_wp2_with fail
                    with_reducible refine (v1 _ hT6).mono ?_
                    rintro e w7 ⟨rfl, hc7⟩
                    have hT7 := hT6.ch0 hc7
                    have hcq7 := hcq6.trans hc7
                    dsimp only
                    go_wp2_with fail
                    with_reducible refine (p3 w7 hT7).mono ?_
                    rintro e w9 ⟨rfl, rfl⟩
                    dsimp only
                    go_wp2_with fail
                    go_roundw
                    case rel => exact ⟨j + 1, by omega, by go_num, hcq7⟩
                    case measure => exact meas_lt (by omega)
              · obtain rfl : j = S.length := by omega
                go_wp2_with fail
                go_roundw
                case rel => exact ⟨k + 1, by omega, by go_num, hC4.trans hcq⟩
                case measure => exact meas_lt (by omega)
          · obtain rfl : k = S.length := by omega
            clear c1 c2 c3 HO HCS HBD HAO
            have hTr := hT2.ch0 hcr
            have hqr := hq2.ch0 hcr
            have hCr := hC2.trans hcr
            go_wp2_with fail
            go_loopw [170] (fun i wq => ∃ (k : Nat), k ≤ l.length ∧ i = .int .i64 k ∧ Ch No wr wq) (fun i _ => l.length - (intOf i).toNat)
            case atStart => exact ⟨0, by omega, rfl, Ch.refl _ _⟩
            case round =>
              obtain ⟨k, hk, rfl, hcq⟩ := hrel
              by_cases hlt4 : k < l.length
              · obtain ⟨b, off, rfl, _, d0, d1, d2, ia, ib⟩ := ((h.ch0 hCr).ch0 hcq).tact_at k hlt4
                obtain ⟨A, hA⟩ : ∃ A, A = l[k] := ⟨_, rfl⟩
                rw [← hA] at d0 d1 d2 ia ib
                clear hA
                obtain ⟨x, p, o⟩ := A
                dsimp only at d0 d1 d2 ia ib
                have hmx := HMT.out x
                have c4x := c4 x
                obtain ⟨C8, hC8⟩ : ∃ z, z = wr.heap.size := ⟨_, rfl⟩
                obtain ⟨w8, hw8⟩ : ∃ z, z = wr.alloc (.cells #[.int .i64 x, .int .i64 p, .bool o] 68) := ⟨_, rfl⟩
                have hc8 : Ch No wr w8 := by rw [hw8]; exact (Ch.refl _ _).alloc _
                have k8 : w8.heap[C8]? = some (.cells #[.int .i64 x, .int .i64 p, .bool o] 68 (0, 0)) := by rw [hw8, hC8]; exact heap_alloc_new _ _
                have HC8 := Lib.hid hC8
                have HW8 := Lib.hid hw8
                have HMX := Lib.hid hmx
                clear hC8 hw8 hmx
                go_wp2_with fail
                rw [← HC8.out, ← HW8.out]
                go_loopw [19, 176] (fun v i wz => ∃ (j : Nat), j ≤ S.length ∧ i = .int .i64 j ∧ v = .int .i64 ((S.take j).count x : Nat) ∧ w8 = wz) (fun _ i _ => S.length - (intOf i).toNat)
                case atStart => exact ⟨0, by omega, rfl, rfl, rfl⟩
                case round =>
                  obtain ⟨j, hj, rfl, rfl, rfl⟩ := hrel
                  have z0 := cellOf k8 0 rfl
                  by_cases hlt5 : j < S.length
                  · obtain ⟨b2, off2, rfl, _, _, d2, iy⟩ := ((hqr.ch0 hcq).ch0 hc8).int_at j hlt5
                    have hct := count_take hlt5 x
                    have hcl := List.count_le_length (a := x) (l := S.take j)
                    rw [List.length_take] at hcl
                    obtain ⟨y, hy⟩ : ∃ z, z = S[j] := ⟨_, rfl⟩
                    rw [← hy] at d2 iy hct
                    obtain ⟨K, hK⟩ : ∃ z, z = (S.take j).count x := ⟨_, rfl⟩
                    rw [← hK] at hct hcl ⊢
                    have hK60 : K ≤ 60 := by omega
                    clear hy hK hcl
                    by_cases hyx : y = x
                    · have b1 : (y == x) = true := by simp [hyx]
                      rw [if_pos hyx] at hct
                      have HCT := Lib.hid hct
                      clear hyx hct
                      go_wp2_with fail
                      go_roundw
                      case rel => exact ⟨j + 1, by omega, by go_num, by rw [HCT.out]; go_num, trivial⟩
                      case measure => exact meas_lt (by omega)
                    · have b1 : (y == x) = false := by simp [hyx]
                      rw [if_neg hyx, Nat.add_zero] at hct
                      have HCT := Lib.hid hct
                      clear hyx hct
                      go_wp2_with fail
                      go_roundw
                      case rel => exact ⟨j + 1, by omega, by go_num, by rw [HCT.out]; first | rfl | go_num | simp, trivial⟩
                      case measure => exact meas_lt (by omega)
                  · obtain rfl : j = S.length := by omega
                    rw [List.take_length, HMX.out]
                    have hc4 := c4x w8 ((hTr.ch0 hcq).ch0 hc8)
                    cases hb : hasB L x with
                    | true =>
                      rw [hb] at hc4
                      rw [if_pos rfl]
                      clear hb
                      go_wp2_with fail
                      with_reducible refine hc4.mono ?_
                      rintro e w9 ⟨rfl, rfl⟩
                      dsimp only
                      go_wp2_with fail
                      go_roundw
                      case rel => exact ⟨k + 1, by omega, by go_num, hcq.trans hc8⟩
                      case measure => exact meas_lt (by omega)
                    | false =>
                      rw [hb] at hc4
                      rw [if_neg (by simp)]
                      clear hb
                      go_wp2_with fail
                      with_reducible refine hc4.mono ?_
                      rintro e w9 ⟨rfl, rfl⟩
                      dsimp only
                      go_wp2_with fail
                      go_roundw
                      case rel => exact ⟨k + 1, by omega, by go_num, hcq.trans hc8⟩
                      case measure => exact meas_lt (by omega)
              · obtain rfl : k = l.length := by omega
                go_wp2_with fail
                with_reducible refine (fixed05 _).mono ?_
                rintro e w9 ⟨rfl, hc9⟩
                dsimp only
                go_wp2_with fail
                go_ret
                exact ⟨rfl, (hCr.trans hcq).trans hc9⟩
end Go.Proofs.Ytinjbonodlkafaa

/- Layer 5 (tree): the law TreePlays: the walk. -/
import Derived.Test.YtinjbonodlkafaaLaw05I
set_option linter.unusedVariables false
set_option linter.unusedSimpArgs false
namespace Go.Proofs.Ytinjbonodlkafaa
open Go Go.RowKit

set_option maxRecDepth 100000 in
set_option maxHeartbeats 8000000 in
theorem play05 (w : World) (a : Option Addr) (c : Nat) (l : List TAct) (ka kb : Int) (h : SlR tactRp No w a c l) (ika : I64 ka) (ikb : I64 kb) (hl : l.length ≤ 9223372036854775807) :
    Calls Try.prog 8 #[.slice a l.length c, .int .i64 ka, .int .i64 kb] w fun e w' => e = .returned (.bool true) ∧ Ch No w w' := by
  by_cases hcut : 60 < l.length
  · have b3 : decide ((l.length : Int) > 60) = true := decide_eq_true (by omega)
    go_enter Try.func8, Try.ntmps8
    go_wp2_with fail
    with_reducible refine (fixed05 _).mono ?_
    rintro e w1 ⟨rfl, hc⟩
    dsimp only
    go_wp2_with fail
    go_ret
    exact ⟨rfl, hc⟩
  · have b3 : decide ((l.length : Int) > 60) = false := decide_eq_false (by omega)
    have hl60 : l.length ≤ 60 := by omega
    clear hcut hl
    go_enter Try.func8, Try.ntmps8
    go_wp2_with fail
    with_reducible refine (tree_New w).mono ?_
    rintro e w1 ⟨t, m, rfl, hT1, ht, hm, hc1⟩
    have hnn : ∀ k, One m k → No k ∨ w.heap.size ≤ k := fun k e => .inr (by have : k = m := e; omega)
    have hX0 : SlR (pairRp .i64) (One m) (w1.alloc (.cells #[] 99)) (some ⟨w1.heap.size, 0, none⟩) 0 [] := by
      refine ⟨by simp, by unfold maxLen; omega, fun q => (by cases q), fun q => absurd rfl q⟩
    have hT1' := hT1.ch0 ((Ch.refl No w1).alloc (.cells #[] 99))
    have hc1' := hc1.alloc (.cells #[] 99)
    dsimp only
    go_wp2_with fail
    go_loopw [8, 30] (fun v i wr => ∃ (k : Nat) (L : TRows) (bx ox cx : Nat), k ≤ l.length ∧ v = .slice (some ⟨bx, ox, none⟩) L.length cx ∧ i = .int .i64 k ∧ TreeAt wr t m L ∧ TreeOk L k ∧ L.length ≤ k ∧ SlR (pairRp .i64) (One m) wr (some ⟨bx, ox, none⟩) cx L ∧ Ch No w wr) (fun _ i _ => l.length - (intOf i).toNat)
    case atStart => exact ⟨0, [], _, _, 0, by omega, rfl, rfl, hT1', TreeOk.nil, by simp, hX0, hc1'⟩
    case round =>
      obtain ⟨k, L, bx, ox, cx, hk, rfl, rfl, hT, ok, hLk, hxs, hc⟩ := hrel
      clear hT1 hc1 hT1' hc1' hX0
      by_cases hlt : k < l.length
      · obtain ⟨b, off, rfl, _, d0, d1, d2, ia, ib⟩ := (h.ch0 hc).tact_at k hlt
        obtain ⟨A, hA⟩ : ∃ A, A = l[k] := ⟨_, rfl⟩
        rw [← hA] at d0 d1 d2 ia ib
        clear hA h
        have oka := tAct_ok ok A ia (by omega)
        have hal := tAct_length L A
        obtain ⟨x, p, o⟩ := A
        dsimp only at d0 d1 d2 ia ib
        have hca : Ch No wr (wr.alloc (.cells #[.int .i64 x, .int .i64 p, .bool o] 68)) := (Ch.refl _ _).alloc _
        have hk8 : (wr.alloc (.cells #[.int .i64 x, .int .i64 p, .bool o] 68)).heap[wr.heap.size]? = some (.cells #[.int .i64 x, .int .i64 p, .bool o] 68 (0, 0)) := heap_alloc_new _ _
        have hn8 : ¬ One m wr.heap.size := fun e => by have : wr.heap.size = m := e; have := hT.lt; omega
        cases o with
        | true =>
          rw [show tAct L ⟨x, p, true⟩ = tOut L x from rfl] at oka hal
          have hcl := tree_Remove _ t m k L x (hT.ch0 hca) ok (by omega)
          have hrf := fun W (hW : SlR (pairRp .i64) (One m) W (some ⟨bx, ox, none⟩) cx L) (hs : m < W.heap.size) => ref05_Remove (One m) W _ cx L x hW (by omega) (fun k e => by have : k = m := e; omega)
          obtain ⟨L2, hL2⟩ : ∃ z, z = (tOut L x).1 := ⟨_, rfl⟩
          obtain ⟨E, hE⟩ : ∃ z, z = (tOut L x).2 := ⟨_, rfl⟩
          rw [← hL2] at oka hal
          simp only [← hL2, ← hE] at hcl hrf
          have b1 : (E != E) = false := by simp
          clear hL2 hE
          go_wp2_with fail
          with_reducible refine hcl.mono ?_
          rintro e w2 ⟨rfl, hT2, hc2⟩
          have hx2 := (hxs.ch0 hca).chF hc2
          have hm2 : m < w2.heap.size := hT2.lt.2
          have y0 := hc2.cell (cellOf hk8 0 rfl) hn8
          have y1 := hc2.cell (cellOf hk8 1 rfl) hn8
          dsimp only
          go_wp2_with fail
          with_reducible refine (hrf w2 hx2 hm2).mono ?_
          rintro e w3 ⟨q3, c3, rfl, hx3, hsm3, hc3⟩
          obtain ⟨b3', o3', rfl⟩ := hsm3 ⟨_, _, rfl⟩
          dsimp only
          go_wp2_with fail
          go_roundw
          case rel => exact ⟨k + 1, L2, b3', o3', c3, by omega, rfl, by go_num, hT2.ch0 hc3, oka, by omega, hx3, ((hc.trans hca).andThen hc2 hnn).trans hc3⟩
          case measure => exact meas_lt (by omega)
        | false =>
          rw [show tAct L ⟨x, p, false⟩ = tPut L x p from rfl] at oka hal
          have hcl := tree_Add _ t m k L x p (hT.ch0 hca) ok
          have hrf := fun W (hW : SlR (pairRp .i64) (One m) W (some ⟨bx, ox, none⟩) cx L) (hs : m < W.heap.size) => ref05_Add (One m) W bx ox cx L x p hW ia ib (by omega) (fun k e => by have : k = m := e; omega)
          obtain ⟨L2, hL2⟩ : ∃ z, z = (tPut L x p).1 := ⟨_, rfl⟩
          obtain ⟨E, hE⟩ : ∃ z, z = (tPut L x p).2 := ⟨_, rfl⟩
          rw [← hL2] at oka hal
          simp only [← hL2, ← hE] at hcl hrf
          have b1 : (E != E) = false := by simp
          clear hL2 hE
          go_wp2_with fail
          with_reducible refine hcl.mono ?_
          rintro e w2 ⟨rfl, hT2, hc2⟩
          have hx2 := (hxs.ch0 hca).chF hc2
          have hm2 : m < w2.heap.size := hT2.lt.2
          have y0 := hc2.cell (cellOf hk8 0 rfl) hn8
          have y1 := hc2.cell (cellOf hk8 1 rfl) hn8
          dsimp only
          go_wp2_with fail
          with_reducible refine (hrf w2 hx2 hm2).mono ?_
          rintro e w3 ⟨b3', o3', c3, rfl, hx3, hc3⟩
          dsimp only
          go_wp2_with fail
          go_roundw
          case rel => exact ⟨k + 1, L2, b3', o3', c3, by omega, rfl, by go_num, hT2.ch0 hc3, oka, by omega, hx3, ((hc.trans hca).andThen hc2 hnn).trans hc3⟩
          case measure => exact meas_lt (by omega)
      · obtain rfl : k = l.length := by omega
        clear h
        have hL60 : L.length ≤ 60 := by omega
        have hxN := hxs.more (F' := No) (fun k e => e.elim)
        have hwk := ref05_Walk L l.length ok (by omega) 0 No wr _ cx hxN (fun _ e => e.elim)
        have hwk0 : ∀ W, TreeAt W t m L → Calls Try.prog 45 #[.pointer (some ⟨t, 0, none⟩)] W fun e w' => ∃ q c, e = .returned (.slice q (sub L 0).length c) ∧ SlR (intRp .i64) No w' q c (sub L 0) ∧ Ch No W w' := fun W hW => tree_Walk No W t m l.length L hW ok (by omega) (fun _ e => e.elim)
        have hsl := walk_length ok
        have c1 := fun x W (hW : TreeAt W t m L) => tree_Interval_any W t m _ L x hW ok (by omega)
        have c4 := fun x W (hW : TreeAt W t m L) => tree_Has W t m L x hW
        have c5 := fun x W (hW : SlR (pairRp .i64) No W (some ⟨bx, ox, none⟩) cx L) => ref05_Walk L l.length ok (by omega) x No W _ cx hW (fun _ e => e.elim)
        have hof := fun x => iv_of (L := L) ok (a := x)
        have hbd := fun x => at_bd (L := L) ok (a := x)
        have hao : ∀ (i : Nat) (x : Int), (sub L 0)[i]? = some x → at_ L x = i := fun i x e => by
          obtain ⟨hi, rfl⟩ := List.getElem?_eq_some_iff.1 e
          exact at_of ok hi
        obtain ⟨S, hS⟩ : ∃ z, z = sub L 0 := ⟨_, rfl⟩
        simp only [← hS] at hwk hwk0 hsl hof hbd hao
        have hS60 : S.length ≤ 60 := by omega
        have HO := Lib.hid hof
        have HBD := Lib.hid hbd
        have HAO := Lib.hid hao
        clear hS hsl hof hbd hao
        go_wp2_with fail
        with_reducible refine hwk.mono ?_
        rintro e w2 ⟨q, cq, rfl, hq2, hc2⟩
        have hT2 := hT.ch0 hc2
        have hx2 := hxN.ch0 hc2
        have hC2 := hc.trans hc2
        clear hwk
        dsimp only
        go_wp2_with fail
        go_loopw [70] (fun i wr => ∃ (k : Nat), k ≤ S.length ∧ i = .int .i64 k ∧ Ch No w2 wr) (fun i _ => S.length - (intOf i).toNat)
        case atStart => exact ⟨0, by omega, rfl, Ch.refl _ _⟩
        case round =>
          obtain ⟨k, hk, rfl, hcr⟩ := hrel
          by_cases hlt2 : k < S.length
          · obtain ⟨b, off, rfl, _, _, d0, ix⟩ := (hq2.ch0 hcr).int_at k hlt2
            have hxm : S[k] ∈ S := List.getElem_mem hlt2
            have hat := HAO.out k _ (List.getElem?_eq_getElem hlt2)
            obtain ⟨x, hx⟩ : ∃ z, z = S[k] := ⟨_, rfl⟩
            rw [← hx] at d0 ix hxm hat
            have c1x := c1 x
            rw [(HO.out x hxm).1, (HO.out x hxm).2] at c1x
            dsimp only at c1x
            have c4x := c4 x
            rw [(HO.out x hxm).1] at c4x
            have c5x := c5 x
            have hbx := HBD.out x hxm
            obtain ⟨X, hX⟩ : ∃ z : Int, z = ((at_ L x : Nat) : Int) := ⟨_, rfl⟩
            obtain ⟨SX, hSX⟩ : ∃ z, z = sub L x := ⟨_, rfl⟩
            rw [← hSX] at hbx
            simp only [← hX, ← hSX] at c1x c5x
            have b5 : (X != (k : Int)) = false := by rw [show X = k from by omega]; simp
            obtain ⟨N, hN⟩ : ∃ z : Int, z = ((1 + SX.length : Nat) : Int) := ⟨_, rfl⟩
            simp only [← hN] at c1x
            have e1 : IntKind.i64.wrap (1 + (SX.length : Int)) = N := by rw [hN, IntWalk.i64_in _ (by omega)]; omega
            have b6 : (N != N) = false := by simp
            clear hx hat hX hSX hbx hxm hN
            go_wp2_with fail
            with_reducible refine (c1x wr (hT2.ch0 hcr)).mono ?_
            rintro e w3 ⟨rfl, hc3⟩
            obtain ⟨C9, hC9⟩ : ∃ z, z = w3.heap.size := ⟨_, rfl⟩
            obtain ⟨w4, hw4⟩ : ∃ z, z = w3.alloc (.cells #[.int .i64 X, .int .i64 N] 60) := ⟨_, rfl⟩
            have hc4 : Ch No w3 w4 := by rw [hw4]; exact (Ch.refl _ _).alloc _
            have k9 : w4.heap[C9]? = some (.cells #[.int .i64 X, .int .i64 N] 60 (0, 0)) := by rw [hw4, hC9]; exact heap_alloc_new _ _
            have HC9 := Lib.hid hC9
            have HW4 := Lib.hid hw4
            clear hC9 hw4
            have hT4 := ((hT2.ch0 hcr).ch0 hc3).ch0 hc4
            have hx4 := ((hx2.ch0 hcr).ch0 hc3).ch0 hc4
            have hC4 := (hcr.trans hc3).trans hc4
            have hcd : Ch No w4 w4.drew := (Ch.refl _ _).drew
            have hcd9 : Ch No w4 w4.drew := hcd
            have K24 : ∀ W : World, Ch No w4 W → (fun w' : World => w'.cell? ⟨C9, 0, none⟩ = some (.int .i64 X) ∧ w'.cell? ⟨C9, 1, none⟩ = some (.int .i64 N)) W := fun W hW => ⟨hW.cell (cellOf k9 0 rfl) (fun e => e), hW.cell (cellOf k9 1 rfl) (fun e => e)⟩
            have hwx := fun W (hW : Ch No w4 W) => c5x W (hx4.ch0 hW)
            dsimp only
            go_wp2_with fail
            rw [← HC9.out, ← HW4.out]
            refine wp_region_held_drew (S := (fun w' : World => w'.cell? ⟨C9, 0, none⟩ = some (.int .i64 X) ∧ w'.cell? ⟨C9, 1, none⟩ = some (.int .i64 N))) (by kernel_rfl) (K24 _ hcd9) (fun hHeld => ?_)
            refine wpAnyH_take (i := 0) (v := ?_) (by simp only [List.getElem?_toArray, List.getElem?_cons_zero, List.getElem?_cons_succ]; exact rfl) (by kernel_rfl) (by kernel_rfl) (by kernel_rfl) (by intro _ _ _ h; exact h) (Or.inl ⟨by rfl, ?_⟩) (by assumption) ?_
            rotate_left
            · intro w hSw
              (try dsimp only at hSw)
              go_simp
              try (with_reducible rfl)
            try simp only [Act.put, List.setIfInBounds_toArray, List.set_cons_zero, List.set_cons_succ]
            refine wpAnyH_take (i := 1) (v := ?_) (by simp only [List.getElem?_toArray, List.getElem?_cons_zero, List.getElem?_cons_succ]; exact rfl) (by kernel_rfl) (by kernel_rfl) (by kernel_rfl) (by intro _ _ _ h; exact h) (Or.inl ⟨by rfl, ?_⟩) (by assumption) ?_
            rotate_left
            · intro w hSw
              (try dsimp only at hSw)
              go_simp
              try (with_reducible rfl)
            try simp only [Act.put, List.setIfInBounds_toArray, List.set_cons_zero, List.set_cons_succ]
            refine wpAnyH_take (i := 2) (v := ?_) (by simp only [List.getElem?_toArray, List.getElem?_cons_zero, List.getElem?_cons_succ]; exact rfl) (by kernel_rfl) (by kernel_rfl) (by kernel_rfl) (by intro _ _ _ h; exact h) (Or.inl ⟨by rfl, ?_⟩) (by assumption) ?_
            rotate_left
            · intro w hSw
              (try dsimp only at hSw)
              go_simp
              try (with_reducible rfl)
            try simp only [Act.put, List.setIfInBounds_toArray, List.set_cons_zero, List.set_cons_succ]
            refine wpAnyH_take (i := 3) (v := ?_) (by simp only [List.getElem?_toArray, List.getElem?_cons_zero, List.getElem?_cons_succ]; exact rfl) (by kernel_rfl) (by kernel_rfl) (by kernel_rfl) (by intro _ _ _ h; exact h) (Or.inl ⟨by rfl, ?_⟩) (by assumption) ?_
            rotate_left
            · intro w hSw
              (try dsimp only at hSw)
              go_simp
              try (with_reducible rfl)
            try simp only [Act.put, List.setIfInBounds_toArray, List.set_cons_zero, List.set_cons_succ]
            refine wpAnyH_take (i := 4) (v := ?_) (by simp only [List.getElem?_toArray, List.getElem?_cons_zero, List.getElem?_cons_succ]; exact rfl) (by kernel_rfl) (by kernel_rfl) (by kernel_rfl) (by intro _ _ _ h; exact h) (Or.inl ⟨by rfl, ?_⟩) (by assumption) ?_
            rotate_left
            · intro w hSw
              (try dsimp only at hSw)
              go_simp
              try (with_reducible rfl)
            try simp only [Act.put, List.setIfInBounds_toArray, List.set_cons_zero, List.set_cons_succ]
            refine wpAnyH_take (i := 5) (v := ?_) (by simp only [List.getElem?_toArray, List.getElem?_cons_zero, List.getElem?_cons_succ]; exact rfl) (by kernel_rfl) (by kernel_rfl) (by kernel_rfl) (by intro _ _ _ h; exact h) (Or.inl ⟨by rfl, ?_⟩) (by assumption) ?_
            rotate_left
            · intro w hSw
              (try dsimp only at hSw)
              go_simp
              try (with_reducible rfl)
            try simp only [Act.put, List.setIfInBounds_toArray, List.set_cons_zero, List.set_cons_succ]
            refine wpAnyH_take (i := 6) (v := ?_) (by simp only [List.getElem?_toArray, List.getElem?_cons_zero, List.getElem?_cons_succ]; exact rfl) (by kernel_rfl) (by kernel_rfl) (by kernel_rfl) (by intro _ _ _ h; exact h) (Or.inl ⟨by rfl, ?_⟩) (by assumption) ?_
            rotate_left
            · intro w hSw
              (try dsimp only at hSw)
              go_simp
              try (with_reducible rfl)
            try simp only [Act.put, List.setIfInBounds_toArray, List.set_cons_zero, List.set_cons_succ]
            refine wpAnyH_take (i := 7) (v := ?_) (by simp only [List.getElem?_toArray, List.getElem?_cons_zero, List.getElem?_cons_succ]; exact rfl) (by kernel_rfl) (by kernel_rfl) (by kernel_rfl) (by intro _ _ _ h; exact h) (Or.inl ⟨by rfl, ?_⟩) (by assumption) ?_
            rotate_left
            · intro w hSw
              (try dsimp only at hSw)
              go_simp
              try (with_reducible rfl)
            try simp only [Act.put, List.setIfInBounds_toArray, List.set_cons_zero, List.set_cons_succ]
            refine wpAnyH_take (i := 8) (v := ?_) (by simp only [List.getElem?_toArray, List.getElem?_cons_zero, List.getElem?_cons_succ]; exact rfl) (by kernel_rfl) (by kernel_rfl) (by kernel_rfl) (by intro _ _ _ h; exact h) (Or.inl ⟨by rfl, ?_⟩) (by assumption) ?_
            rotate_left
            · intro w hSw
              (try dsimp only at hSw)
              go_simp
              try (with_reducible rfl)
            try simp only [Act.put, List.setIfInBounds_toArray, List.set_cons_zero, List.set_cons_succ]
            refine wpAnyH_take (i := 9) (v := ?_) (by simp only [List.getElem?_toArray, List.getElem?_cons_zero, List.getElem?_cons_succ]; exact rfl) (by kernel_rfl) (by kernel_rfl) (by kernel_rfl) (by intro _ _ _ h; exact h) (Or.inl ⟨by rfl, ?_⟩) (by assumption) ?_
            rotate_left
            · intro w hSw
              (try dsimp only at hSw)
              go_simp
              try (with_reducible rfl)
            try simp only [Act.put, List.setIfInBounds_toArray, List.set_cons_zero, List.set_cons_succ]
            refine wpAnyH_take (i := 10) (v := ?_) (by simp only [List.getElem?_toArray, List.getElem?_cons_zero, List.getElem?_cons_succ]; exact rfl) (by kernel_rfl) (by kernel_rfl) (by kernel_rfl) (by intro _ _ _ h; exact h) (Or.inl ⟨by rfl, ?_⟩) (by assumption) ?_
            rotate_left
            · intro w hSw
              (try dsimp only at hSw)
              go_simp
              try (with_reducible rfl)
            try simp only [Act.put, List.setIfInBounds_toArray, List.set_cons_zero, List.set_cons_succ]
            refine wpAnyH_take (i := 11) (v := ?_) (by simp only [List.getElem?_toArray, List.getElem?_cons_zero, List.getElem?_cons_succ]; exact rfl) (by kernel_rfl) (by kernel_rfl) (by kernel_rfl) (by intro _ _ _ h; exact h) (Or.inl ⟨by rfl, ?_⟩) (by assumption) ?_
            rotate_left
            · intro w hSw
              (try dsimp only at hSw)
              go_simp
              try (with_reducible rfl)
            try simp only [Act.put, List.setIfInBounds_toArray, List.set_cons_zero, List.set_cons_succ]
            refine wpAnyH_take (i := 12) (v := ?_) (by simp only [List.getElem?_toArray, List.getElem?_cons_zero, List.getElem?_cons_succ]; exact rfl) (by kernel_rfl) (by kernel_rfl) (by kernel_rfl) (by intro _ _ _ h; exact h) (Or.inl ⟨by rfl, ?_⟩) (by assumption) ?_
            rotate_left
            · intro w hSw
              (try dsimp only at hSw)
              go_simp
              try (with_reducible rfl)
            try simp only [Act.put, List.setIfInBounds_toArray, List.set_cons_zero, List.set_cons_succ]
            refine wpAnyH_ready (rs := [13]) (by kernel_rfl) (by simp) ?_
            refine AllReadyH.cons (by simp only [List.getElem?_toArray, List.getElem?_cons_zero, List.getElem?_cons_succ]; exact rfl) (fun K hK => ?_) AllReadyH.nil
            go_simp
            (go_at_call 42; (with_reducible refine (hwx w4.drew hcd9).mono ?_); rintro e w5 ⟨q5, c5, rfl, hs5, hc5⟩; have hS9 := K24 w5 (hcd9.trans hc5); (try dsimp only))
            try go_wp2_with fail
            refine hK.out _ _ ?_ (fun hHeld => ?_)
            · try dsimp only
              first | assumption | exact (by assumption) | fail
            clear hK K
            try simp only [Act.put, List.setIfInBounds_toArray, List.set_cons_zero, List.set_cons_succ]
            refine wpAnyH_take (i := 14) (v := ?_) (by simp only [List.getElem?_toArray, List.getElem?_cons_zero, List.getElem?_cons_succ]; exact rfl) (by kernel_rfl) (by kernel_rfl) (by kernel_rfl) (by intro _ _ _ h; exact h) (Or.inl ⟨by rfl, ?_⟩) (by assumption) ?_
            rotate_left
            · intro w hSw
              (try dsimp only at hSw)
              go_simp
              try (with_reducible rfl)
            try simp only [Act.put, List.setIfInBounds_toArray, List.set_cons_zero, List.set_cons_succ]
            refine wpAnyH_take (i := 15) (v := ?_) (by simp only [List.getElem?_toArray, List.getElem?_cons_zero, List.getElem?_cons_succ]; exact rfl) (by kernel_rfl) (by kernel_rfl) (by kernel_rfl) (by intro _ _ _ h; exact h) (Or.inl ⟨by rfl, ?_⟩) (by assumption) ?_
            rotate_left
            · intro w hSw
              (try dsimp only at hSw)
              go_simp
              try (with_reducible rfl)
            try simp only [Act.put, List.setIfInBounds_toArray, List.set_cons_zero, List.set_cons_succ]
            refine wpAnyH_take (i := 16) (v := ?_) (by simp only [List.getElem?_toArray, List.getElem?_cons_zero, List.getElem?_cons_succ]; exact rfl) (by kernel_rfl) (by kernel_rfl) (by kernel_rfl) (by intro _ _ _ h; exact h) (Or.inl ⟨by rfl, ?_⟩) (by assumption) ?_
            rotate_left
            · intro w hSw
              (try dsimp only at hSw)
              go_simp
              try (with_reducible rfl)
            try simp only [Act.put, List.setIfInBounds_toArray, List.set_cons_zero, List.set_cons_succ]
            refine wpAnyH_take (i := 17) (v := ?_) (by simp only [List.getElem?_toArray, List.getElem?_cons_zero, List.getElem?_cons_succ]; exact rfl) (by kernel_rfl) (by kernel_rfl) (by kernel_rfl) (by intro _ _ _ h; exact h) (Or.inl ⟨by rfl, ?_⟩) (by assumption) ?_
            rotate_left
            · intro w hSw
              (try dsimp only at hSw)
              go_simp
              try (with_reducible rfl)
            try simp only [Act.put, List.setIfInBounds_toArray, List.set_cons_zero, List.set_cons_succ]
            refine wpAnyH_take (i := 18) (v := ?_) (by simp only [List.getElem?_toArray, List.getElem?_cons_zero, List.getElem?_cons_succ]; exact rfl) (by kernel_rfl) (by kernel_rfl) (by kernel_rfl) (by intro _ _ _ h; exact h) (Or.inl ⟨by rfl, ?_⟩) (by assumption) ?_
            rotate_left
            · intro w hSw
              (try dsimp only at hSw)
              go_simp
              try (with_reducible rfl)
            try simp only [Act.put, List.setIfInBounds_toArray, List.set_cons_zero, List.set_cons_succ]
            refine wpAnyH_take (i := 19) (v := ?_) (by simp only [List.getElem?_toArray, List.getElem?_cons_zero, List.getElem?_cons_succ]; exact rfl) (by kernel_rfl) (by kernel_rfl) (by kernel_rfl) (by intro _ _ _ h; exact h) (Or.inl ⟨by rfl, ?_⟩) (by assumption) ?_
            rotate_left
            · intro w hSw
              (try dsimp only at hSw)
              go_simp
              try (with_reducible rfl)
            try simp only [Act.put, List.setIfInBounds_toArray, List.set_cons_zero, List.set_cons_succ]
            refine wpAnyH_take (i := 20) (v := ?_) (by simp only [List.getElem?_toArray, List.getElem?_cons_zero, List.getElem?_cons_succ]; exact rfl) (by kernel_rfl) (by kernel_rfl) (by kernel_rfl) (by intro _ _ _ h; exact h) (Or.inl ⟨by rfl, ?_⟩) (by assumption) ?_
            rotate_left
            · intro w hSw
              (try dsimp only at hSw)
              go_simp
              try (with_reducible rfl)
            try simp only [Act.put, List.setIfInBounds_toArray, List.set_cons_zero, List.set_cons_succ]
            refine wpAnyH_ready (rs := [21]) (by kernel_rfl) (by simp) ?_
            refine AllReadyH.cons (by simp only [List.getElem?_toArray, List.getElem?_cons_zero, List.getElem?_cons_succ]; exact rfl) (fun K hK => ?_) AllReadyH.nil
            go_simp
            (go_at_call 44; (with_reducible refine (c4x w5 (hT4.ch0 (hcd.trans hc5))).mono ?_); rintro e w6 ⟨rfl, rfl⟩; have hS9 := K24 w5 (hcd9.trans hc5); (try dsimp only))
            try go_wp2_with fail
            refine hK.out _ _ ?_ (fun hHeld => ?_)
            · try dsimp only
              first | assumption | exact (by assumption) | fail
            clear hK K
            try simp only [Act.put, List.setIfInBounds_toArray, List.set_cons_zero, List.set_cons_succ]
            refine wpAnyH_take (i := 22) (v := ?_) (by simp only [List.getElem?_toArray, List.getElem?_cons_zero, List.getElem?_cons_succ]; exact rfl) (by kernel_rfl) (by kernel_rfl) (by kernel_rfl) (by intro _ _ _ h; exact h) (Or.inl ⟨by rfl, ?_⟩) (by assumption) ?_
            rotate_left
            · intro w hSw
              (try dsimp only at hSw)
              go_simp
              try (with_reducible rfl)
            try simp only [Act.put, List.setIfInBounds_toArray, List.set_cons_zero, List.set_cons_succ]
            refine wpAnyH_take (i := 23) (v := ?_) (by simp only [List.getElem?_toArray, List.getElem?_cons_zero, List.getElem?_cons_succ]; exact rfl) (by kernel_rfl) (by kernel_rfl) (by kernel_rfl) (by intro _ _ _ h; exact h) (Or.inl ⟨by rfl, ?_⟩) (by assumption) ?_
            rotate_left
            · intro w hSw
              (try dsimp only at hSw)
              go_simp
              try (with_reducible rfl)
            try simp only [Act.put, List.setIfInBounds_toArray, List.set_cons_zero, List.set_cons_succ]
            refine wpAnyH_done (by kernel_rfl) ?_ _
            go_wp2_with fail
            go_roundw
            case rel => exact ⟨k + 1, by omega, by go_num, hC4.trans (hcd.trans hc5)⟩
            case measure => exact meas_lt (by omega)
          · obtain rfl : k = S.length := by omega
            have hTr := hT2.ch0 hcr
            have hqr := hq2.ch0 hcr
            have hxr := hx2.ch0 hcr
            have hCr := hC2.trans hcr
            have c1a := c1 ka wr hTr
            have d1 := c4 ka
            have r1 := fun W (hW : SlR (pairRp .i64) No W (some ⟨bx, ox, none⟩) cx L) => ref05_Has No W _ cx L ka hW (by omega)
            have d2 := fun W (hW : TreeAt W t m L) => tree_Parent W t m L ka hW
            have r2 := fun W (hW : SlR (pairRp .i64) No W (some ⟨bx, ox, none⟩) cx L) => ref05_Parent No W _ cx L ka hW (by omega)
            have d3 := fun W (hW : TreeAt W t m L) => tree_Kids No W t m l.length L ka hW ok (by omega) (fun _ e => e.elim)
            have r3 := fun W (hW : SlR (pairRp .i64) No W (some ⟨bx, ox, none⟩) cx L) => ref05_Kids No W _ cx L ka hW (by omega) (fun _ e => e.elim)
            have d4 := fun W (hW : TreeAt W t m L) => tree_Within W t m l.length L ka kb hW ok (by omega)
            have r4 := fun W (hW : SlR (pairRp .i64) No W (some ⟨bx, ox, none⟩) cx L) => ref05_Within No W _ cx l.length L ka kb hW ok (by omega)
            have hkl := kids_length L ka
            have hiv : hasB L ka = false → ivl L ka = (0, 0) := fun e => by unfold ivl; rw [if_neg (by simp [e])]
            obtain ⟨KD, hKD⟩ : ∃ z, z = kids L ka := ⟨_, rfl⟩
            obtain ⟨PA, hPA⟩ : ∃ z, z = (pget L ka).getD 0 := ⟨_, rfl⟩
            obtain ⟨IB, hIB⟩ : ∃ z, z = inB L ka kb := ⟨_, rfl⟩
            obtain ⟨HB, hHB⟩ : ∃ z, z = hasB L ka := ⟨_, rfl⟩
            obtain ⟨V, hV⟩ : ∃ z, z = ivl L ka := ⟨_, rfl⟩
            rw [← hKD] at hkl
            rw [← hHB, ← hV] at hiv c1a
            simp only [← hKD, ← hPA, ← hIB, ← hHB] at d1 r1 d2 r2 d3 r3 d4 r4
            have g1 : (PA == PA) = true := by simp
            have g2 : (IB == IB) = true := by simp
            clear hKD hPA hIB hHB hV c1 c4 c5 HO HBD HAO
            obtain ⟨V1, V2⟩ := V
            cases HB with
            | true =>
              clear hiv
              go_wp2_with fail
              with_reducible refine c1a.mono ?_
              rintro e w3 ⟨rfl, hc3⟩
              obtain ⟨C8, hC8⟩ : ∃ z, z = w3.heap.size := ⟨_, rfl⟩
              obtain ⟨w4, hw4⟩ : ∃ z, z = w3.alloc (.cells #[.int .i64 V1, .int .i64 V2] 60) := ⟨_, rfl⟩
              have hc4 : Ch No w3 w4 := by rw [hw4]; exact (Ch.refl _ _).alloc _
              have k18 : w4.heap[C8]? = some (.cells #[.int .i64 V1, .int .i64 V2] 60 (0, 0)) := by rw [hw4, hC8]; exact heap_alloc_new _ _
              have HC8 := Lib.hid hC8
              have HW4 := Lib.hid hw4
              clear hC8 hw4
              have hT4 := (hTr.ch0 hc3).ch0 hc4
              have hx4 := (hxr.ch0 hc3).ch0 hc4
              have hq4 := (hqr.ch0 hc3).ch0 hc4
              have hC4 := (hCr.trans hc3).trans hc4
              dsimp only
              go_wp2_with fail
              rw [← HC8.out, ← HW4.out]
              with_reducible refine (fixed05 w4).mono ?_
              rintro e w5 ⟨rfl, hc5⟩
              have hT5 := hT4.ch0 hc5
              dsimp only
              go_wp2_with fail
              with_reducible refine (hwk0 w5 hT5).mono ?_
              rintro e w6 ⟨q6, c6, rfl, hq6, hc6⟩
              have hT6 := hT5.ch0 hc6
              have hsm := ref04_Same No No w6 q6 q c6 cq S S hq6 ((hq4.ch0 hc5).ch0 hc6) (by omega) (by omega)
              rw [decide_eq_true rfl] at hsm
              dsimp only
              go_wp2_with fail
              with_reducible refine hsm.mono ?_
              rintro e w7 ⟨rfl, hc7⟩
              have hT7 := hT6.ch0 hc7
              have hx7 := ((hx4.ch0 hc5).ch0 hc6).ch0 hc7
              dsimp only
              go_wp2_with fail
              with_reducible refine (d1 w7 hT7).mono ?_
              rintro e w8 ⟨rfl, rfl⟩
              dsimp only
              go_wp2_with fail
              with_reducible refine (r1 w7 hx7).mono ?_
              rintro e w8 ⟨rfl, rfl⟩
              dsimp only
              go_wp2_with fail
              with_reducible refine (d2 w7 hT7).mono ?_
              rintro e w8 ⟨rfl, rfl⟩
              dsimp only
              go_wp2_with fail
              with_reducible refine (r2 w7 hx7).mono ?_
              rintro e w8 ⟨rfl, rfl⟩
              dsimp only
              go_wp2_with fail
              with_reducible refine (d3 w7 hT7).mono ?_
              rintro e w8 ⟨q8, c8, rfl, hq8, hc8⟩
              have hx8 := hx7.ch0 hc8
              dsimp only
              go_wp2_with fail
              with_reducible refine (r3 w8 hx8).mono ?_
              rintro e w9 ⟨q9, c9, rfl, hq9, hc9⟩
              have hsk := ref04_Same No No w9 q8 q9 c8 c9 KD KD (hq8.ch0 hc9) hq9 (by omega) (by omega)
              rw [decide_eq_true rfl] at hsk
              dsimp only
              go_wp2_with fail
              with_reducible refine hsk.mono ?_
              rintro e w10 ⟨rfl, hc10⟩
              have hT10 := ((hT7.ch0 hc8).ch0 hc9).ch0 hc10
              have hx10 := (hx8.ch0 hc9).ch0 hc10
              dsimp only
              go_wp2_with fail
              with_reducible refine (d4 w10 hT10).mono ?_
              rintro e w11 ⟨rfl, hc11⟩
              have hx11 := hx10.ch0 hc11
              dsimp only
              go_wp2_with fail
              with_reducible refine (r4 w11 hx11).mono ?_
              rintro e w12 ⟨rfl, rfl⟩
              dsimp only
              go_wp2_with fail
              with_reducible refine (r1 w11 hx11).mono ?_
              rintro e w12 ⟨rfl, rfl⟩
              have hcT := (((((hc5.trans hc6).trans hc7).trans hc8).trans hc9).trans hc10).trans hc11
              have y0 := hcT.cell (cellOf k18 0 rfl) (fun e => e)
              have y1 := hcT.cell (cellOf k18 1 rfl) (fun e => e)
              dsimp only
              go_wp2_with fail
              go_ret
              exact ⟨rfl, hC4.trans hcT⟩
            | false =>
              obtain ⟨rfl, rfl⟩ : V1 = 0 ∧ V2 = 0 := by have := hiv rfl; exact ⟨congrArg Prod.fst this, congrArg Prod.snd this⟩
              clear hiv
              go_wp2_with fail
              with_reducible refine c1a.mono ?_
              rintro e w3 ⟨rfl, hc3⟩
              obtain ⟨C8, hC8⟩ : ∃ z, z = w3.heap.size := ⟨_, rfl⟩
              obtain ⟨w4, hw4⟩ : ∃ z, z = w3.alloc (.cells #[.int .i64 0, .int .i64 0] 60) := ⟨_, rfl⟩
              have hc4 : Ch No w3 w4 := by rw [hw4]; exact (Ch.refl _ _).alloc _
              have k18 : w4.heap[C8]? = some (.cells #[.int .i64 0, .int .i64 0] 60 (0, 0)) := by rw [hw4, hC8]; exact heap_alloc_new _ _
              have HC8 := Lib.hid hC8
              have HW4 := Lib.hid hw4
              clear hC8 hw4
              have hT4 := (hTr.ch0 hc3).ch0 hc4
              have hx4 := (hxr.ch0 hc3).ch0 hc4
              have hq4 := (hqr.ch0 hc3).ch0 hc4
              have hC4 := (hCr.trans hc3).trans hc4
              dsimp only
              go_wp2_with fail
              rw [← HC8.out, ← HW4.out]
              with_reducible refine (fixed05 w4).mono ?_
              rintro e w5 ⟨rfl, hc5⟩
              have hT5 := hT4.ch0 hc5
              dsimp only
              go_wp2_with fail
              with_reducible refine (hwk0 w5 hT5).mono ?_
              rintro e w6 ⟨q6, c6, rfl, hq6, hc6⟩
              have hT6 := hT5.ch0 hc6
              have hsm := ref04_Same No No w6 q6 q c6 cq S S hq6 ((hq4.ch0 hc5).ch0 hc6) (by omega) (by omega)
              rw [decide_eq_true rfl] at hsm
              dsimp only
              go_wp2_with fail
              with_reducible refine hsm.mono ?_
              rintro e w7 ⟨rfl, hc7⟩
              have hT7 := hT6.ch0 hc7
              have hx7 := ((hx4.ch0 hc5).ch0 hc6).ch0 hc7
              dsimp only
              go_wp2_with fail
              with_reducible refine (d1 w7 hT7).mono ?_
              rintro e w8 ⟨rfl, rfl⟩
              dsimp only
              go_wp2_with fail
              with_reducible refine (r1 w7 hx7).mono ?_
              rintro e w8 ⟨rfl, rfl⟩
              dsimp only
              go_wp2_with fail
              with_reducible refine (d2 w7 hT7).mono ?_
              rintro e w8 ⟨rfl, rfl⟩
              dsimp only
              go_wp2_with fail
              with_reducible refine (r2 w7 hx7).mono ?_
              rintro e w8 ⟨rfl, rfl⟩
              dsimp only
              go_wp2_with fail
              with_reducible refine (d3 w7 hT7).mono ?_
              rintro e w8 ⟨q8, c8, rfl, hq8, hc8⟩
              have hx8 := hx7.ch0 hc8
              dsimp only
              go_wp2_with fail
              with_reducible refine (r3 w8 hx8).mono ?_
              rintro e w9 ⟨q9, c9, rfl, hq9, hc9⟩
              have hsk := ref04_Same No No w9 q8 q9 c8 c9 KD KD (hq8.ch0 hc9) hq9 (by omega) (by omega)
              rw [decide_eq_true rfl] at hsk
              dsimp only
              go_wp2_with fail
              with_reducible refine hsk.mono ?_
              rintro e w10 ⟨rfl, hc10⟩
              have hT10 := ((hT7.ch0 hc8).ch0 hc9).ch0 hc10
              have hx10 := (hx8.ch0 hc9).ch0 hc10
              dsimp only
              go_wp2_with fail
              with_reducible refine (d4 w10 hT10).mono ?_
              rintro e w11 ⟨rfl, hc11⟩
              have hx11 := hx10.ch0 hc11
              dsimp only
              go_wp2_with fail
              with_reducible refine (r4 w11 hx11).mono ?_
              rintro e w12 ⟨rfl, rfl⟩
              dsimp only
              go_wp2_with fail
              with_reducible refine (r1 w11 hx11).mono ?_
              rintro e w12 ⟨rfl, rfl⟩
              have hcT := (((((hc5.trans hc6).trans hc7).trans hc8).trans hc9).trans hc10).trans hc11
              have y0 := hcT.cell (cellOf k18 0 rfl) (fun e => e)
              have y1 := hcT.cell (cellOf k18 1 rfl) (fun e => e)
              dsimp only
              go_wp2_with fail
              go_ret
              exact ⟨rfl, hC4.trans hcT⟩
end Go.Proofs.Ytinjbonodlkafaa

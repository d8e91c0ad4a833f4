/- The law PlanPlays: the walk. -/
import Derived.Test.YtlmaflhfedbmdaaDoorPlanPages
set_option linter.unusedVariables false
set_option linter.unusedSimpArgs false
namespace Go.Proofs.YtlmaflhfedbmdaaDoor
open Go Go.RowKit

theorem refV_eq (pg us : Int) : refV (pg, us) = .agg #[.int .i64 (refPg pg), .int .i64 (16 - us)] := rfl

set_option maxRecDepth 100000 in
set_option maxHeartbeats 4000000 in
theorem plays10 (w : World) (a : Option Addr) (c : Nat) (l : List (Int × Int)) (h : SlR (pairRp .i64) No w a c l) (hn : Nw w) (hm : l.length ≤ 9223372036854775807) :
    Calls Tryd.prog 3 #[.slice a l.length c] w fun e w' => e = .returned (.bool true) ∧ Ch No w w' := by
  by_cases hcut : 100 < l.length
  · have b3 : decide ((l.length : Int) > 100) = true := decide_eq_true (by omega)
    go_enter Tryd.func3, Tryd.ntmps3
    go_wp2_with fail
    with_reducible refine (fixed10 _ hn).mono ?_
    rintro e w1 ⟨rfl, hc⟩
    dsimp only
    go_wp2_with fail
    go_ret
    exact ⟨rfl, hc⟩
  · have b3 : decide ((l.length : Int) > 100) = false := decide_eq_false (by omega)
    have hl100 : l.length ≤ 100 := by omega
    clear hcut hm
    go_enter Tryd.func3, Tryd.ntmps3
    go_wp2_with fail
    with_reducible refine (plan_New _ hn).mono ?_
    rintro e w1 ⟨p, rfl, hp, hps, hc1⟩
    dsimp only
    go_wp2_with fail
    have hxh := heap_alloc_new w1 (.cells #[.int .i64 0, .int .i64 0] 27)
    have hp1 := hp.ch ((Ch.refl No _).alloc (.cells #[.int .i64 0, .int .i64 0] 27)) (fun q => q)
    have hc1' : Ch No w (w1.alloc (.cells #[.int .i64 0, .int .i64 0] 27)) := hc1.alloc _
    have hpX := hp.lt
    have hXw := hc1.size
    obtain ⟨X, hX⟩ : ∃ X, X = w1.heap.size := ⟨_, rfl⟩
    rw [← hX] at hxh hpX hXw ⊢
    clear hX hp hc1
    go_loopw [26] (fun i wr => ∃ (k : Nat) (pg us : Int), k ≤ l.length ∧ i = .int .i64 k ∧ PlanAt wr p pg us ∧ wr.heap[X]? = some (.cells #[.int .i64 (refPg pg), .int .i64 (16 - us)] 27 (0, 0)) ∧ Ch No w wr) (fun i _ => l.length - (intOf i).toNat)
    case atStart => exact ⟨0, -1, 16, by omega, rfl, hp1, hxh, hc1'⟩
    case round =>
      obtain ⟨k, pg, us, hk, rfl, hs, hx, hc⟩ := hrel
      clear hp1 hxh hc1'
      by_cases hlt : k < l.length
      · obtain ⟨b, off, rfl, _, _, d0, d1, i0, i1⟩ := (h.ch0 hc).pair_at k hlt
        obtain ⟨⟨x, y⟩, hxe⟩ : ∃ e, e = l[k] := ⟨_, rfl⟩
        rw [← hxe] at d0 d1 i0 i1
        clear hxe h
        simp only at d0 d1 i0 i1
        have hb := hs.ok.bd
        have hXl := heap_lt hx
        have hrp : 0 ≤ refPg pg ∧ refPg pg ≤ 1024 := by unfold refPg; omega
        have hnr := hn.ch hc (fun q => q)
        have hri : I64 (refPg pg) := show _ ∧ _ from by omega
        have hal : Ch No wr (wr.alloc (.cells #[.int .i64 x, .int .i64 y] 28)) := (Ch.refl _ _).alloc _
        have hB := heap_alloc_new wr (.cells #[.int .i64 x, .int .i64 y] 28)
        go_wp2_with fail
        with_reducible refine (plan_Need _ p pg us x (hs.ch hal (fun q => q)) (hnr.ch hal (fun q => q)) i0).mono ?_
        rintro e w2 ⟨rfl, hc2⟩
        have hB2 := hc2.heap hB (fun q => q)
        have hx2 := (hal.trans hc2).heap hx (fun q => q)
        have hs2 := hs.ch (hal.trans hc2) (fun q => q)
        have hn2 := hnr.ch (hal.trans hc2) (fun q => q)
        have e0 : w2.cell? ⟨wr.heap.size, 0, none⟩ = some (.int .i64 x) := cellOf hB2 0 rfl
        have e1 : w2.cell? ⟨X, 0, none⟩ = some (.int .i64 (refPg pg)) := cellOf hx2 0 rfl
        have e2 : w2.cell? ⟨X, 1, none⟩ = some (.int .i64 (16 - us)) := cellOf hx2 1 rfl
        dsimp only
        go_wp2_with fail
        with_reducible refine (ref10_Need w2 (refPg pg) us x hb.2.2 hri i0).mono ?_
        rintro e w3 ⟨rfl, hc3⟩
        have hB3 := hc3.heap hB2 (fun q => q)
        have hx3 := hc3.heap hx2 (fun q => q)
        have hs3 := hs2.ch hc3 (fun q => q)
        have hn3 := hn2.ch hc3 (fun q => q)
        have e3 : w3.cell? ⟨wr.heap.size, 0, none⟩ = some (.int .i64 x) := cellOf hB3 0 rfl
        have e4 : w3.cell? ⟨wr.heap.size, 1, none⟩ = some (.int .i64 y) := cellOf hB3 1 rfl
        dsimp only
        go_wp2_with fail
        with_reducible refine (plan_Place w3 p pg us x y hs3 hn3 i0 i1).mono ?_
        rintro e w4 ⟨rfl, hs4, hc4⟩
        have hpr := hs.lt
        have hnp1 : ¬ One p X := fun q => by have : X = p := q; omega
        have hnp2 : ¬ One p wr.heap.size := fun q => by have : wr.heap.size = p := q; omega
        have hB4 := hc4.heap hB3 hnp2
        have hx4 := hc4.heap hx3 hnp1
        have hpl := ref10_Place w4 pg us x y hs.ok i0 i1
        have hcw4 : Ch No w w4 := (((hc.trans hal).trans hc2).trans hc3).andThen hc4 (fun q hq => .inr (by cases hq; omega))
        rw [refV_eq] at hpl
        have hok' := placeP_ok hs.ok x y
        obtain ⟨⟨pg', us'⟩, hst⟩ : ∃ s, s = placeP pg us x y := ⟨_, rfl⟩
        rw [← hst] at hpl hs4 hok'
        rw [refV_eq] at hpl
        simp only at hs4 hok'
        have hb' := hok'.bd
        have hrp' : 0 ≤ refPg pg' ∧ refPg pg' ≤ 1024 := by unfold refPg; omega
        clear hst
        have e5 : w4.cell? ⟨wr.heap.size, 0, none⟩ = some (.int .i64 x) := cellOf hB4 0 rfl
        have e6 : w4.cell? ⟨wr.heap.size, 1, none⟩ = some (.int .i64 y) := cellOf hB4 1 rfl
        have e7 : w4.cell? ⟨X, 0, none⟩ = some (.int .i64 (refPg pg)) := cellOf hx4 0 rfl
        have e8 : w4.cell? ⟨X, 1, none⟩ = some (.int .i64 (16 - us)) := cellOf hx4 1 rfl
        clear e0 e1 e2 e3 e4 hB hB2 hB3 hx2 hx3 hs2 hs3 hn2 hn3 hnr
        dsimp only
        go_wp2_with fail
        with_reducible refine hpl.mono ?_
        rintro e w5 ⟨rfl, hc5⟩
        have hx5 := hc5.heap hx4 (fun q => q)
        have hs5 := hs4.ch hc5 (fun q => q)
        have hcw5 := hcw4.trans hc5
        have e9 : w5.cell? ⟨X, 0, none⟩ = some (.int .i64 (refPg pg)) := cellOf hx5 0 rfl
        have e10 : w5.cell? ⟨X, 1, none⟩ = some (.int .i64 (16 - us)) := cellOf hx5 1 rfl
        have hXl5 := heap_lt hx5
        have hXne : ¬ X = w5.heap.size := by omega
        have hXne2 : ¬ w5.heap.size = X := by omega
        have fx0 := freeOf hx5 0
        have fx1 := freeOf hx5 1
        clear e5 e6 e7 e8 hpl
        dsimp only
        go_wp2_with fail
        have hx6 := heap_al (heap_set (heap_set (i := 0) hx5 (.int .i64 (refPg pg'))) (i := 1) (.int .i64 (16 - us'))) (.cells #[.int .i64 (refPg pg'), .int .i64 (16 - us')] 27)
        have hc6 : Ch (One X) w5 (((w5.setCell ⟨X, 0, none⟩ (.int .i64 (refPg pg'))).setCell ⟨X, 1, none⟩ (.int .i64 (16 - us'))).alloc (.cells #[.int .i64 (refPg pg'), .int .i64 (16 - us')] 27)) :=
          (Ch.setIn (F := One X) (Ch.setIn (F := One X) (Ch.refl _ _) (p := ⟨X, 0, none⟩) rfl _) (p := ⟨X, 1, none⟩) rfl _).alloc _
        obtain ⟨w6, e6⟩ : ∃ z, z = ((w5.setCell ⟨X, 0, none⟩ (.int .i64 (refPg pg'))).setCell ⟨X, 1, none⟩ (.int .i64 (16 - us'))).alloc (.cells #[.int .i64 (refPg pg'), .int .i64 (16 - us')] 27) := ⟨_, rfl⟩
        rw [← e6] at hx6 hc6 ⊢
        clear e6 e9 e10 fx0 fx1 hx5
        have hs6 := hs5.ch hc6 (fun q => by have : p = X := q; omega)
        have hcw6 : Ch No w w6 := hcw5.andThen hc6 (fun q hq => .inr (by cases hq; omega))
        have q1 : w6.cell? ⟨X, 1, none⟩ = some (.int .i64 (16 - us')) := cellOf hx6 1 rfl
        have hl : ∀ n, Calls Tryd.prog 12 #[.pointer (some ⟨p, 0, none⟩)] (w6.drewN n) fun e w' => e = .returned (.int .i64 (16 - us')) ∧ w6.drewN n = w' :=
          fun n => plan_Left _ p pg' us' (hs6.ch ((Ch.refl No _).drewN n) (fun q => q))
        go_quiet (first | (go_at_call 12; with_reducible exact quiet_eq (hl _)))
        go_wp2_with fail
        go_roundw
        case rel => exact ⟨k + 1, pg', us', by omega, by go_num, hs6.ch ((Ch.refl No _).drewN _) (fun q => q), hx6, hcw6.drewN _⟩
        case measure => exact meas_lt (by omega)
      · obtain rfl : k = l.length := by omega
        go_wp2_with fail
        with_reducible refine (fixed10 _ (hn.ch hc (fun q => q))).mono ?_
        rintro e w2 ⟨rfl, hc2⟩
        dsimp only
        go_wp2_with fail
        go_ret
        exact ⟨rfl, hc.trans hc2⟩
end Go.Proofs.YtlmaflhfedbmdaaDoor

/- Layer 15 (tally): the law TallyBack: the walk. (Printed by wip/gen15l.py.) -/
import Derived.Test.YtinjbonodlkafaaLaw15
import Derived.Test.YtinjbonodlkafaaTallyPure2
set_option linter.unusedVariables false
set_option linter.unusedSimpArgs false
namespace Go.Proofs.Ytinjbonodlkafaa
open Go Go.RowKit

set_option maxRecDepth 100000 in
set_option maxHeartbeats 8000000 in
theorem back15 (w : World) (a : Option Addr) (c : Nat) (l : List TAct) (x y : Int) (hsl0 : SlR tactRp No w a c l) (hx : I64 x) (hy : I64 y) (hl : l.length ≤ 9223372036854775807) :
    Calls Try.prog 7 #[.slice a l.length c, .int .i64 x, .int .i64 y] w fun e w' => e = .returned (.bool true) ∧ Ch No w w' := by
  by_cases hcut : 100 < l.length
  · have b3 : decide ((l.length : Int) > 100) = true := decide_eq_true (by omega)
    go_enter Try.func7, Try.ntmps7
    go_wp2_with fail
    with_reducible refine (fixed15 w).mono ?_
    rintro e w1 ⟨rfl, hc⟩
    dsimp only
    go_wp2_with fail
    go_ret
    exact ⟨rfl, hc⟩
  have b3 : decide ((l.length : Int) > 100) = false := decide_eq_false (by omega)
  have hl100 : l.length ≤ 100 := by omega
  clear hcut hl
  go_enter Try.func7, Try.ntmps7
  go_wp2_with fail
  with_reducible refine (tally_New w).mono ?_
  rintro e w1 ⟨t, m, rfl, hT1, ht, hm, hc1⟩
  dsimp only
  go_wp2_with fail
  have hsz1 := hc1.size
  have hC1 : Ch (fun k => w.heap.size ≤ k) w w1 := hc1.ofNo
  clear hc1
  go_loopw [20] (fun u wq => ∃ (i : Nat) (L : Rows), i ≤ l.length ∧ u = .int .i64 i ∧ TallyAt wq t m L ∧ L.length ≤ 2 * i ∧ Ch (fun k => w.heap.size ≤ k) w wq) (fun u _ => l.length - (intOf u).toNat)
  case atStart => exact ⟨0, [], by omega, rfl, hT1, by simp, hC1⟩
  case round =>
    clear hT1 hC1
    obtain ⟨i, L, hi, rfl, hT, hLl, hC⟩ := hrel
    have hup : ∀ k, One m k → w.heap.size ≤ k := fun k z => by have : k = m := z; omega
    by_cases hil : i < l.length
    · obtain ⟨bq, off, rfl, _, d0, d1, d2, ik, ia, ib⟩ := ((hsl0.more (F' := fun k => w.heap.size ≤ k) (fun k e => .inr e)).ch hC (fun k e => e)).tact_at i hil
      obtain ⟨A, hA⟩ : ∃ A, A = l[i] := ⟨_, rfl⟩
      rw [← hA] at d0 d1 d2 ik ia ib
      clear hA
      obtain ⟨kk, aa, bb⟩ := A
      dsimp only at d0 d1 d2 ik ia ib
      have hal : Ch No wr (wr.alloc (.cells #[.int .i64 kk, .int .i64 aa, .int .i64 bb] 48)) := (Ch.refl _ _).alloc _
      have kA : (wr.alloc (.cells #[.int .i64 kk, .int .i64 aa, .int .i64 bb] 48)).heap[wr.heap.size]? = some (.cells #[.int .i64 kk, .int .i64 aa, .int .i64 bb] 48 (0, 0)) := World.alloc_heap_new _ _
      obtain ⟨wa, hwa⟩ : ∃ z, z = wr.alloc (.cells #[.int .i64 kk, .int .i64 aa, .int .i64 bb] 48) := ⟨_, rfl⟩
      have hTa := hT.ch0 (hwa ▸ hal)
      have hca := hC.then0 (hwa ▸ hal)
      have hala : Ch No wr wa := hwa ▸ hal
      rw [← hwa] at kA
      have a0 : wa.cell? ⟨wr.heap.size, 0, none⟩ = some (.int .i64 kk) := cellOf kA 0 rfl
      have a1 : wa.cell? ⟨wr.heap.size, 1, none⟩ = some (.int .i64 aa) := cellOf kA 1 rfl
      have a2 : wa.cell? ⟨wr.heap.size, 2, none⟩ = some (.int .i64 bb) := cellOf kA 2 rfl
      have hltr := hT.lt
      have hmR : ¬ One m wr.heap.size := fun z => by have : wr.heap.size = m := z; omega
      have HWA := Lib.hid hwa
      by_cases k0 : kk = 0
      · have qq0 : (kk == 0) = true := by simp [k0]
        have hgo := tally_Add wa t m L aa bb hTa ia ib
        have hRl := tAdd_length L aa bb
        clear k0 hwa hal
        go_wp2_with fail
        rw [← HWA.out]
        with_reducible refine hgo.mono ?_
        rintro e w4 ⟨rfl, hT4, hc4⟩
        dsimp only
        go_wp2_with fail
        go_roundw
        case rel => exact ⟨i + 1, _, by omega, by go_num, hT4, by omega, hca.andThen hc4 (fun k z => .inl (hup k z))⟩
        case measure => exact meas_lt (by omega)
      by_cases k1 : kk = 1
      · have qq0 : (kk == 0) = false := by simp [k0]
        have qq1 : (kk == 1) = true := by simp [k1]
        have hgo := tally_Swap wa t m L aa bb hTa ia ib
        have hRl := tSwap_length L aa bb
        clear k0 k1 hwa hal
        go_wp2_with fail
        rw [← HWA.out]
        with_reducible refine hgo.mono ?_
        rintro e w4 ⟨rfl, hT4, hc4⟩
        dsimp only
        go_wp2_with fail
        go_roundw
        case rel => exact ⟨i + 1, _, by omega, by go_num, hT4, by omega, hca.andThen hc4 (fun k z => .inl (hup k z))⟩
        case measure => exact meas_lt (by omega)
      by_cases k2 : kk = 2
      · have qq0 : (kk == 0) = false := by simp [k0]
        have qq1 : (kk == 1) = false := by simp [k1]
        have qq2 : (kk == 2) = true := by simp [k2]
        have hgo := tally_Forget wa t m L aa hTa ia
        have hRl := rset_length L aa 0
        clear k0 k1 k2 hwa hal
        go_wp2_with fail
        rw [← HWA.out]
        with_reducible refine hgo.mono ?_
        rintro e w4 ⟨rfl, hT4, hc4⟩
        dsimp only
        go_wp2_with fail
        go_roundw
        case rel => exact ⟨i + 1, _, by omega, by go_num, hT4, by omega, hca.andThen hc4 (fun k z => .inl (hup k z))⟩
        case measure => exact meas_lt (by omega)
      have qq0 : (kk == 0) = false := by simp [k0]
      have qq1 : (kk == 1) = false := by simp [k1]
      have qq2 : (kk == 2) = false := by simp [k2]
      clear k0 k1 k2 hwa hal
      go_wp2_with fail
      rw [← HWA.out]
      go_roundw
      case rel => exact ⟨i + 1, L, by omega, by go_num, hTa, by omega, hca⟩
      case measure => exact meas_lt (by omega)
    · have hie : i = l.length := by omega
      have hno : ∀ (n k : Nat), No k → k < n := fun _ _ z => z.elim
      have hall := fun (F : Nat → Prop) (W : World) (M : Rows) (hW : TallyAt W t m M) (hM : M.length ≤ 1000) (hF : ∀ k, F k → k < W.heap.size) => tally_All F W t m M hW (by omega) hF
      have hFr : ∀ k, One m k → k < wr.heap.size := fun k z => by have : k = m := z; have := hT.lt; omega
      have hsw := tSwap_length L x y
      have hlen : L.length ≤ 200 := by omega
      have HIE := Lib.hid hie
      have b1 : decide ((i : Int) < (l.length : Int)) = false := decide_eq_false (by omega)
      clear hie
      by_cases hs : (tSwap L x y).2 = 0
      · have hbk := swap_back hT.rise hx.bd.2 hy.bd.2 hs
        have hgo := fun (W : World) (hW : TallyAt W t m L) => tally_Swap W t m L x y hW hx hy
        obtain ⟨M, hM⟩ : ∃ z, z = (tSwap L x y).1 := ⟨_, rfl⟩
        rw [← hM] at hbk hsw
        simp only [← hM, hs] at hgo
        have hgo2 := fun (W : World) (hW : TallyAt W t m M) => tally_Swap W t m M y x hW hy hx
        rw [hbk] at hgo2
        dsimp only at hgo2
        clear hs hM hbk
        go_wp2_with fail
        with_reducible refine (hall (One m) wr L hT (by omega) hFr).mono ?_
        rintro e w3 ⟨q3, c3, rfl, hX3, hc3⟩
        have hT3 := hT.ch0 hc3
        dsimp only
        go_wp2_with fail
        with_reducible refine (hgo w3 hT3).mono ?_
        rintro e w4 ⟨rfl, hT4, hc4⟩
        have hX4 := hX3.ch hc4 (fun _ z => z)
        dsimp only
        go_wp2_with fail
        with_reducible refine (fixed15 w4).mono ?_
        rintro e w5 ⟨rfl, hc5⟩
        have hT5 := hT4.ch0 hc5
        have hX5 := hX4.ch0 hc5
        dsimp only
        go_wp2_with fail
        with_reducible refine (hgo2 w5 hT5).mono ?_
        rintro e w6 ⟨rfl, hT6, hc6⟩
        have hX6 := hX5.ch hc6 (fun _ z => z)
        dsimp only
        go_wp2_with fail
        with_reducible refine (hall No w6 L hT6 (by omega) (hno _)).mono ?_
        rintro e w7 ⟨q7, c7, rfl, hs7, hc7⟩
        have hsm := ref06_Same No (One m) w7 q7 q3 c7 c3 _ _ hs7 (hX6.ch0 hc7) (by omega) (by omega)
        rw [decide_eq_true rfl] at hsm
        dsimp only
        go_wp2_with fail
        with_reducible refine hsm.mono ?_
        rintro e w8 ⟨rfl, hc8⟩
        dsimp only
        go_wp2_with fail
        go_ret
        exact ⟨rfl, ((((((hC.then0 hc3).andThen hc4 (fun k z => .inl (hup k z))).then0 hc5).andThen hc6 (fun k z => .inl (hup k z))).then0 hc7).then0 hc8).out⟩
      · have hbad := tSwap_bad hs
        have hgo := fun (W : World) (hW : TallyAt W t m L) => tally_Swap W t m L x y hW hx hy
        obtain ⟨er, her⟩ : ∃ z, z = (tSwap L x y).2 := ⟨_, rfl⟩
        simp only [← her, hbad] at hgo
        have e9 : (er != 0) = true := by rw [← her] at hs; simp [hs]
        clear hs her hbad
        go_wp2_with fail
        with_reducible refine (hall (One m) wr L hT (by omega) hFr).mono ?_
        rintro e w3 ⟨q3, c3, rfl, hX3, hc3⟩
        have hT3 := hT.ch0 hc3
        dsimp only
        go_wp2_with fail
        with_reducible refine (hgo w3 hT3).mono ?_
        rintro e w4 ⟨rfl, hT4, hc4⟩
        have hX4 := hX3.ch hc4 (fun _ z => z)
        dsimp only
        go_wp2_with fail
        with_reducible refine (fixed15 w4).mono ?_
        rintro e w5 ⟨rfl, hc5⟩
        have hT5 := hT4.ch0 hc5
        have hX5 := hX4.ch0 hc5
        dsimp only
        go_wp2_with fail
        with_reducible refine (hall No w5 L hT5 (by omega) (hno _)).mono ?_
        rintro e w7 ⟨q7, c7, rfl, hs7, hc7⟩
        have hsm := ref06_Same No (One m) w7 q7 q3 c7 c3 _ _ hs7 (hX5.ch0 hc7) (by omega) (by omega)
        rw [decide_eq_true rfl] at hsm
        dsimp only
        go_wp2_with fail
        with_reducible refine hsm.mono ?_
        rintro e w8 ⟨rfl, hc8⟩
        dsimp only
        go_wp2_with fail
        go_ret
        exact ⟨rfl, (((((hC.then0 hc3).andThen hc4 (fun k z => .inl (hup k z))).then0 hc5).then0 hc7).then0 hc8).out⟩
end Go.Proofs.Ytinjbonodlkafaa

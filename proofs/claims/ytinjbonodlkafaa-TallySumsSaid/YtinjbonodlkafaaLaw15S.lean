/- Layer 15 (tally): the law TallySums: the walk. (Printed by wip/gen15t.py.) -/
import Derived.Test.YtinjbonodlkafaaTallySum
import Derived.Deep.RegionHeld3
set_option linter.unusedVariables false
set_option linter.unusedSimpArgs false
namespace Go.Proofs.Ytinjbonodlkafaa
open Go Go.RowKit

theorem cell_lt {w : World} {b i : Nat} {v : Value} (h : w.cell? ⟨b, i, none⟩ = some v) : b < w.heap.size := by
  rcases Nat.lt_or_ge b w.heap.size with h1 | h1
  · exact h1
  · have h2 : w.heap[b]? = none := Array.getElem?_eq_none h1
    simp [World.cell?, h2] at h
theorem quiet_eq15 {P : Program} {f : FuncId} {args : Array Value} {w : World} {n : Nat} {v : Value}
    (h : Calls P f args (w.drewN n) fun e w' => e = .returned v ∧ w.drewN n = w') : Calls P f args (w.drewN n) fun e w'' => e = .returned v ∧ ∃ m, w'' = w.drewN m :=
  h.mono fun _ _ ⟨he, hm⟩ => ⟨he, n, hm.symm⟩

set_option maxRecDepth 100000 in
set_option maxHeartbeats 8000000 in
theorem sums15 (w : World) (a : Option Addr) (c : Nat) (l : List TAct) (hsl0 : SlR tactRp No w a c l) (hl : l.length ≤ 9223372036854775807) :
    Calls Try.prog 6 #[.slice a l.length c] w fun e w' => e = .returned (.bool true) ∧ Ch No w w' := by
  by_cases hcut : 100 < l.length
  · have b3 : decide ((l.length : Int) > 100) = true := decide_eq_true (by omega)
    go_enter Try.func6, Try.ntmps6
    go_wp2_with fail
    with_reducible refine (fixed15 w).mono ?_
    rintro e w1 ⟨rfl, hc⟩
    dsimp only
    go_wp2_with fail
    go_ret
    exact ⟨rfl, hc⟩
  have b3 : decide ((l.length : Int) > 100) = false := decide_eq_false (by omega)
  have hl100 : l.length ≤ 100 := by omega
  clear hcut hl
  have hno : ∀ (n k : Nat), No k → k < n := fun _ _ z => z.elim
  go_enter Try.func6, Try.ntmps6
  go_wp2_with fail
  with_reducible refine (tally_New w).mono ?_
  rintro e w1 ⟨t, m, rfl, hT1, ht, hm, hc1⟩
  have hlt1 := hT1.lt
  have hsz1 := hc1.size
  have hal1 : Ch No w1 (w1.alloc (.cells #[.pointer (some ⟨t, 0, none⟩)] 44)) := (Ch.refl _ _).alloc _
  have k1 : (w1.alloc (.cells #[.pointer (some ⟨t, 0, none⟩)] 44)).heap[w1.heap.size]? = some (.cells #[.pointer (some ⟨t, 0, none⟩)] 44 (0, 0)) := World.alloc_heap_new _ _
  have hB1 := cellOf k1 0 rfl
  dsimp only
  go_wp2_with fail
  have hT2 := hT1.ch0 hal1
  have hC2 : Ch (fun k => w.heap.size ≤ k) w (w1.alloc (.cells #[.pointer (some ⟨t, 0, none⟩)] 44)) := (hc1.trans hal1).ofNo
  obtain ⟨T3, hT3⟩ : ∃ z, z = w1.heap.size := ⟨_, rfl⟩
  have hTT : t ≠ T3 ∧ m ≠ T3 := by omega
  obtain ⟨w2, hw2⟩ : ∃ z, z = w1.alloc (.cells #[.pointer (some ⟨t, 0, none⟩)] 44) := ⟨_, rfl⟩
  rw [← hw2, ← hT3] at hB1
  rw [← hw2] at hT2 hC2
  simp only [← hw2, ← hT3]
  clear hw2 hT3 hal1 hT1 hlt1 hc1 hsz1 k1
  go_loopw [21] (fun u wq => ∃ (i : Nat) (L : Rows), i ≤ l.length ∧ u = .int .i64 i ∧ TallyAt wq t m L ∧ L.length ≤ 2 * i ∧ wq.cell? ⟨T3, 0, none⟩ = some (.pointer (some ⟨t, 0, none⟩)) ∧ Ch (fun k => w.heap.size ≤ k) w wq) (fun u _ => l.length - (intOf u).toNat)
  case atStart => exact ⟨0, [], by omega, rfl, hT2, by simp, hB1, hC2⟩
  case round =>
    clear hT2 hC2 hB1
    obtain ⟨i, L, hi, rfl, hT, hLl, hB, hC⟩ := hrel
    have hup : ∀ k, One m k → w.heap.size ≤ k := fun k z => by have : k = m := z; omega
    by_cases hil : i < l.length
    · obtain ⟨bq, off, rfl, _, d0, d1, d2, ik, ia, ib⟩ := ((hsl0.more (F' := fun k => w.heap.size ≤ k) (fun k e => .inr e)).ch hC (fun k e => e)).tact_at i hil
      obtain ⟨A, hA⟩ : ∃ A, A = l[i] := ⟨_, rfl⟩
      rw [← hA] at d0 d1 d2 ik ia ib
      clear hA
      obtain ⟨kk, aa, bb⟩ := A
      dsimp only at d0 d1 d2 ik ia ib
      have hal : Ch No wr (wr.alloc (.cells #[.int .i64 kk, .int .i64 aa, .int .i64 bb] 48)) := (Ch.refl _ _).alloc _
      have kA : (wr.alloc (.cells #[.int .i64 kk, .int .i64 aa, .int .i64 bb] 48)).heap[wr.heap.size]? = some (.cells #[.int .i64 kk, .int .i64 aa, .int .i64 bb] 48 (0, 0)) := World.alloc_heap_new _ _
      obtain ⟨wa, hwa⟩ : ∃ z, z = wr.alloc (.cells #[.int .i64 kk, .int .i64 aa, .int .i64 bb] 48) := ⟨_, rfl⟩
      have hTa := hT.ch0 (hwa ▸ hal)
      have hca := hC.then0 (hwa ▸ hal)
      have hala : Ch No wr wa := hwa ▸ hal
      rw [← hwa] at kA
      have a0 : wa.cell? ⟨wr.heap.size, 0, none⟩ = some (.int .i64 kk) := cellOf kA 0 rfl
      have a1 : wa.cell? ⟨wr.heap.size, 1, none⟩ = some (.int .i64 aa) := cellOf kA 1 rfl
      have a2 : wa.cell? ⟨wr.heap.size, 2, none⟩ = some (.int .i64 bb) := cellOf kA 2 rfl
      have hltr := hT.lt
      have hmR : ¬ One m wr.heap.size := fun z => by have : wr.heap.size = m := z; omega
      have HWA := Lib.hid hwa
      have hBa := hala.cell hB (fun q => q)
      have hBlt : T3 < wr.heap.size := cell_lt hB
      have hsm := sum15 wa T3 t m L hTa hBa (by omega)
      obtain ⟨R0, hR0⟩ : ∃ z, z = wr.heap.size := ⟨_, rfl⟩
      have hR0' : m ≠ R0 ∧ t ≠ R0 := by omega
      go_wp2_with fail
      rw [← HWA.out]
      with_reducible refine hsm.mono ?_
      rintro e w4 ⟨rfl, hc4⟩
      have hT4 := hTa.ch0 hc4
      have hB4 := hc4.cell hBa (fun q => q)
      have hC4 := hca.then0 hc4
      have kA4 := hc4.heap kA (fun q => q)
      rw [← hR0] at kA4
      have a0 := cellOf kA4 0 rfl
      have a1 := cellOf kA4 1 rfl
      have a2 := cellOf kA4 2 rfl
      simp only [← hR0]
      clear hwa hal hsm hBa hTa hca kA hala hR0 hltr hmR hBlt hT hB hC
      by_cases k0 : kk = 0
      · have qq0 : (kk == 0) = true := by simp [k0]
        have hcD : Ch No w4 w4.drew := (Ch.refl _ _).drew
        have hTD := hT4.ch0 hcD
        have hgo := tally_Add w4.drew t m L aa bb hTD ia ib
        have hRl := tAdd_length L aa bb
        have hK0 : ∀ k, One m k → k ≠ T3 ∧ k ≠ R0 := fun k z => by have : k = m := z; omega
        have K13 : ∀ W : World, Ch (One m) w4.drew W → (fun w' : World => w'.cell? ⟨T3, 0, none⟩ = some (.pointer (some ⟨t, 0, none⟩)) ∧ w'.cell? ⟨R0, 1, none⟩ = some (.int .i64 aa) ∧ w'.cell? ⟨R0, 2, none⟩ = some (.int .i64 bb)) W := fun W hW => ⟨(hcD.ofNo.trans hW).cell hB4 (fun z => (hK0 _ z).1 rfl), (hcD.ofNo.trans hW).cell a1 (fun z => (hK0 _ z).2 rfl), (hcD.ofNo.trans hW).cell a2 (fun z => (hK0 _ z).2 rfl)⟩
        by_cases hs : (tAdd L aa bb).2 = 0
        · have htot := total_add hT4.rise hs
          rw [hs] at hgo
          have hRi := hT4.rise.add (n := bb) ia.bd.2
          obtain ⟨R, hR⟩ : ∃ z, z = (tAdd L aa bb).1 := ⟨_, rfl⟩
          rw [← hR] at hgo hRl htot hRi
          have hRbd := total_bd hRi
          have hsum := fun W (hW : TallyAt W t m R) (hc : Ch (One m) w4.drew W) => sum15 W T3 t m R hW ((K13 W hc).1) (by omega)
          obtain ⟨TL, hTL⟩ : ∃ z, z = total L := ⟨_, rfl⟩
          obtain ⟨TR, hTR⟩ : ∃ z, z = total R := ⟨_, rfl⟩
          rw [← hTL, ← hTR] at htot
          simp only [← hTL]
          simp only [← hTR] at hsum
          have e5 : IntKind.i64.wrap (TL + bb) = TR := by rw [htot]; exact IntWalk.i64_in _ (by omega)
          have e6 : (TR != TR) = false := by simp
          clear hs hR hTR hTL htot hRbd hRi k0
          go_wp2_with fail
          refine wp_region_held_drew (S := (fun w' : World => w'.cell? ⟨T3, 0, none⟩ = some (.pointer (some ⟨t, 0, none⟩)) ∧ w'.cell? ⟨R0, 1, none⟩ = some (.int .i64 aa) ∧ w'.cell? ⟨R0, 2, none⟩ = some (.int .i64 bb))) (by kernel_rfl) (K13 _ (Ch.refl _ _)) (fun hHeld => ?_)
          refine wpAnyH_take (i := 0) (v := ?_) (by simp only [List.getElem?_toArray, List.getElem?_cons_zero, List.getElem?_cons_succ]; exact rfl) (by kernel_rfl) (by kernel_rfl) (by kernel_rfl) (by intro _ _ _ h; exact h) (Or.inl ⟨by rfl, ?_⟩) (by assumption) ?_
          rotate_left
          · intro w hSw
            (try dsimp only at hSw)
            go_simp
            try (with_reducible rfl)
          try simp only [Act.put, List.setIfInBounds_toArray, List.set_cons_zero, List.set_cons_succ]
          refine wpAnyH_take (i := 1) (v := ?_) (by simp only [List.getElem?_toArray, List.getElem?_cons_zero, List.getElem?_cons_succ]; exact rfl) (by kernel_rfl) (by kernel_rfl) (by kernel_rfl) (by intro _ _ _ h; exact h) (Or.inl ⟨by rfl, ?_⟩) (by assumption) ?_
          rotate_left
          · intro w hSw
            (try dsimp only at hSw)
            go_simp
            try (with_reducible rfl)
          try simp only [Act.put, List.setIfInBounds_toArray, List.set_cons_zero, List.set_cons_succ]
          refine wpAnyH_take (i := 2) (v := ?_) (by simp only [List.getElem?_toArray, List.getElem?_cons_zero, List.getElem?_cons_succ]; exact rfl) (by kernel_rfl) (by kernel_rfl) (by kernel_rfl) (by intro _ _ _ h; exact h) (Or.inl ⟨by rfl, ?_⟩) (by assumption) ?_
          rotate_left
          · intro w hSw
            (try dsimp only at hSw)
            go_simp
            try (with_reducible rfl)
          try simp only [Act.put, List.setIfInBounds_toArray, List.set_cons_zero, List.set_cons_succ]
          refine wpAnyH_take (i := 3) (v := ?_) (by simp only [List.getElem?_toArray, List.getElem?_cons_zero, List.getElem?_cons_succ]; exact rfl) (by kernel_rfl) (by kernel_rfl) (by kernel_rfl) (by intro _ _ _ h; exact h) (Or.inl ⟨by rfl, ?_⟩) (by assumption) ?_
          rotate_left
          · intro w hSw
            (try dsimp only at hSw)
            go_simp
            try (with_reducible rfl)
          try simp only [Act.put, List.setIfInBounds_toArray, List.set_cons_zero, List.set_cons_succ]
          refine wpAnyH_take (i := 4) (v := ?_) (by simp only [List.getElem?_toArray, List.getElem?_cons_zero, List.getElem?_cons_succ]; exact rfl) (by kernel_rfl) (by kernel_rfl) (by kernel_rfl) (by intro _ _ _ h; exact h) (Or.inl ⟨by rfl, ?_⟩) (by assumption) ?_
          rotate_left
          · intro w hSw
            (try dsimp only at hSw)
            go_simp
            try (with_reducible rfl)
          try simp only [Act.put, List.setIfInBounds_toArray, List.set_cons_zero, List.set_cons_succ]
          refine wpAnyH_ready (rs := [5]) (by kernel_rfl) (by simp) ?_
          refine AllReadyH.cons (by simp only [List.getElem?_toArray, List.getElem?_cons_zero, List.getElem?_cons_succ]; exact rfl) (fun K hK => ?_) AllReadyH.nil
          go_simp
          (go_at_call 25; (with_reducible refine hgo.mono ?_); rintro e w5 ⟨rfl, hT5, hc5⟩; have hS9 := K13 w5 hc5; (try dsimp only))
          try go_wp2_with fail
          refine hK.out _ _ ?_ (fun hHeld => ?_)
          · try dsimp only
            first | assumption | exact (by assumption) | fail
          clear hK K
          try simp only [Act.put, List.setIfInBounds_toArray, List.set_cons_zero, List.set_cons_succ]
          refine wpAnyH_take (i := 6) (v := ?_) (by simp only [List.getElem?_toArray, List.getElem?_cons_zero, List.getElem?_cons_succ]; exact rfl) (by kernel_rfl) (by kernel_rfl) (by kernel_rfl) (by intro _ _ _ h; exact h) (Or.inl ⟨by rfl, ?_⟩) (by assumption) ?_
          rotate_left
          · intro w hSw
            (try dsimp only at hSw)
            go_simp
            try (with_reducible rfl)
          try simp only [Act.put, List.setIfInBounds_toArray, List.set_cons_zero, List.set_cons_succ]
          refine wpAnyH_take (i := 7) (v := ?_) (by simp only [List.getElem?_toArray, List.getElem?_cons_zero, List.getElem?_cons_succ]; exact rfl) (by kernel_rfl) (by kernel_rfl) (by kernel_rfl) (by intro _ _ _ h; exact h) (Or.inl ⟨by rfl, ?_⟩) (by assumption) ?_
          rotate_left
          · intro w hSw
            (try dsimp only at hSw)
            go_simp
            try (with_reducible rfl)
          try simp only [Act.put, List.setIfInBounds_toArray, List.set_cons_zero, List.set_cons_succ]
          refine wpAnyH_take (i := 8) (v := ?_) (by simp only [List.getElem?_toArray, List.getElem?_cons_zero, List.getElem?_cons_succ]; exact rfl) (by kernel_rfl) (by kernel_rfl) (by kernel_rfl) (by intro _ _ _ h; exact h) (Or.inl ⟨by rfl, ?_⟩) (by assumption) ?_
          rotate_left
          · intro w hSw
            (try dsimp only at hSw)
            go_simp
            try (with_reducible rfl)
          try simp only [Act.put, List.setIfInBounds_toArray, List.set_cons_zero, List.set_cons_succ]
          refine wpAnyH_take (i := 10) (v := ?_) (by simp only [List.getElem?_toArray, List.getElem?_cons_zero, List.getElem?_cons_succ]; exact rfl) (by kernel_rfl) (by kernel_rfl) (by kernel_rfl) (by intro _ _ _ h; exact h) (Or.inl ⟨by rfl, ?_⟩) (by assumption) ?_
          rotate_left
          · intro w hSw
            (try dsimp only at hSw)
            go_simp
            try (with_reducible rfl)
          try simp only [Act.put, List.setIfInBounds_toArray, List.set_cons_zero, List.set_cons_succ]
          refine wpAnyH_take (i := 11) (v := ?_) (by simp only [List.getElem?_toArray, List.getElem?_cons_zero, List.getElem?_cons_succ]; exact rfl) (by kernel_rfl) (by kernel_rfl) (by kernel_rfl) (by intro _ _ _ h; exact h) (Or.inl ⟨by rfl, ?_⟩) (by assumption) ?_
          rotate_left
          · intro w hSw
            (try dsimp only at hSw)
            go_simp
            try (with_reducible rfl)
          try simp only [Act.put, List.setIfInBounds_toArray, List.set_cons_zero, List.set_cons_succ]
          refine wpAnyH_take (i := 12) (v := ?_) (by simp only [List.getElem?_toArray, List.getElem?_cons_zero, List.getElem?_cons_succ]; exact rfl) (by kernel_rfl) (by kernel_rfl) (by kernel_rfl) (by intro _ _ _ h; exact h) (Or.inl ⟨by rfl, ?_⟩) (by assumption) ?_
          rotate_left
          · intro w hSw
            (try dsimp only at hSw)
            go_simp
            try (with_reducible rfl)
          try simp only [Act.put, List.setIfInBounds_toArray, List.set_cons_zero, List.set_cons_succ]
          refine wpAnyH_take (i := 13) (v := ?_) (by simp only [List.getElem?_toArray, List.getElem?_cons_zero, List.getElem?_cons_succ]; exact rfl) (by kernel_rfl) (by kernel_rfl) (by kernel_rfl) (by intro _ _ _ h; exact h) (Or.inl ⟨by rfl, ?_⟩) (by assumption) ?_
          rotate_left
          · intro w hSw
            (try dsimp only at hSw)
            go_simp
            try (with_reducible rfl)
          try simp only [Act.put, List.setIfInBounds_toArray, List.set_cons_zero, List.set_cons_succ]
          refine wpAnyH_ready (rs := [9]) (by kernel_rfl) (by simp) ?_
          refine AllReadyH.cons (by simp only [List.getElem?_toArray, List.getElem?_cons_zero, List.getElem?_cons_succ]; exact rfl) (fun K hK => ?_) AllReadyH.nil
          go_simp
          (go_at_call 35; (with_reducible refine (hsum w5 hT5 hc5).mono ?_); rintro e w6 ⟨rfl, hc6⟩; have hS9 := K13 w6 (hc5.then0 hc6); (try dsimp only))
          try go_wp2_with fail
          refine hK.out _ _ ?_ (fun hHeld => ?_)
          · try dsimp only
            first | assumption | exact (by assumption) | fail
          clear hK K
          try simp only [Act.put, List.setIfInBounds_toArray, List.set_cons_zero, List.set_cons_succ]
          refine wpAnyH_take (i := 14) (v := ?_) (by simp only [List.getElem?_toArray, List.getElem?_cons_zero, List.getElem?_cons_succ]; exact rfl) (by kernel_rfl) (by kernel_rfl) (by kernel_rfl) (by intro _ _ _ h; exact h) (Or.inl ⟨by rfl, ?_⟩) (by assumption) ?_
          rotate_left
          · intro w hSw
            (try dsimp only at hSw)
            go_simp
            try (with_reducible rfl)
          try simp only [Act.put, List.setIfInBounds_toArray, List.set_cons_zero, List.set_cons_succ]
          refine wpAnyH_take (i := 15) (v := ?_) (by simp only [List.getElem?_toArray, List.getElem?_cons_zero, List.getElem?_cons_succ]; exact rfl) (by kernel_rfl) (by kernel_rfl) (by kernel_rfl) (by intro _ _ _ h; exact h) (Or.inl ⟨by rfl, ?_⟩) (by assumption) ?_
          rotate_left
          · intro w hSw
            (try dsimp only at hSw)
            go_simp
            try (with_reducible rfl)
          try simp only [Act.put, List.setIfInBounds_toArray, List.set_cons_zero, List.set_cons_succ]
          refine wpAnyH_done (by kernel_rfl) ?_ _
          try dsimp only
          try go_wp2_with fail
          obtain ⟨wz, hwz⟩ : ∃ z, z = w6 := ⟨_, rfl⟩
          have hTz : TallyAt wz t m R := by rw [hwz]; exact hT5.ch0 hc6
          have hBz : wz.cell? ⟨T3, 0, none⟩ = some (.pointer (some ⟨t, 0, none⟩)) := by rw [hwz]; exact hS9.1
          have hCz : Ch (fun k => w.heap.size ≤ k) w wz := by rw [hwz]; exact (((hC4.then0 hcD).andThen hc5 (fun k z => .inl (hup k z))).then0 hc6)
          have hRz : R.length ≤ 2 * (i + 1) := by omega
          subst hwz
          have hall := tally_All No wz t m R hTz (by omega) (hno _)
          have hTzl := hTz.lt
          have hRr := hTz.rise
          with_reducible refine hall.mono ?_
          rintro e w7 ⟨q7, c7, rfl, hs7, hc7⟩
          have hT7 := hTz.ch0 hc7
          have hB7 := hc7.cell hBz (fun q => q)
          have hC7 := hCz.then0 hc7
          dsimp only
          go_wp2_with fail
          go_loopw [91] (fun v wq => ∃ j : Nat, j ≤ R.length ∧ v = .int .i64 j ∧ Ch No w7 wq) (fun v _ => R.length - (intOf v).toNat)
          case atStart => exact ⟨0, by omega, rfl, Ch.refl _ _⟩
          case round =>
            obtain ⟨j, hj, rfl, hCj⟩ := hrel
            by_cases hjl : j < R.length
            · obtain ⟨bj, offj, rfl, _, _, d0, d1, ix⟩ := (hs7.ch0 hCj).pair_at j hjl
              have hxm : R[j] ∈ R := List.getElem_mem hjl
              have hx1 := hRr.ok _ hxm
              have hx2 := mem_cnt hRr _ hxm
              obtain ⟨x, hx⟩ : ∃ z, z = R[j] := ⟨_, rfl⟩
              rw [← hx] at d0 d1 hx1 hx2
              obtain ⟨k, n⟩ := x
              dsimp only at d0 d1 hx1 hx2
              have f1 : decide (n < 1) = false := decide_eq_false (by omega)
              have f2 : decide (k < 1) = false := decide_eq_false (by omega)
              have f3 : (n != n) = false := by simp
              have hal2 : Ch No wr (wr.alloc (.cells #[.int .i64 k, .int .i64 n] 60)) := (Ch.refl _ _).alloc _
              have kB : (wr.alloc (.cells #[.int .i64 k, .int .i64 n] 60)).heap[wr.heap.size]? = some (.cells #[.int .i64 k, .int .i64 n] 60 (0, 0)) := World.alloc_heap_new _ _
              obtain ⟨wb, hwb⟩ : ∃ z, z = wr.alloc (.cells #[.int .i64 k, .int .i64 n] 60) := ⟨_, rfl⟩
              rw [← hwb] at kB hal2
              have g0 := cellOf kB 0 rfl
              have g1 := cellOf kB 1 rfl
              have hBb := (hCj.trans hal2).cell hB7 (fun q => q)
              have hofn := fun nn : Nat => tally_Of (wb.drewN nn) t m R k ((hT7.ch0 (hCj.trans hal2)).ch0 ((Ch.refl _ _).drewN nn))
              simp only [hx2] at hofn
              have HWB := Lib.hid hwb
              clear hx hxm hx1 hx2 hwb
              go_wp2_with fail
              rw [← HWB.out]
              go_quiet (first | (go_at_call 33; with_reducible exact quiet_eq15 (hofn _)))
              go_wp2_with fail
              go_roundw
              case rel => exact ⟨j + 1, by omega, by go_num, (hCj.trans hal2).drewN _⟩
              case measure => exact meas_lt (by omega)
            · have b9 : decide ((j : Int) < (R.length : Int)) = false := decide_eq_false (by omega)
              have hje : j = R.length := by omega
              clear hjl
              go_wp2_with fail
              go_roundw
              case rel => exact ⟨i + 1, R, by omega, by go_num, hT7.ch0 hCj, by omega, hCj.cell hB7 (fun q => q), hC7.then0 hCj⟩
              case measure => exact meas_lt (by omega)
        · have hbad : (tAdd L aa bb).1 = L := by
            unfold tAdd at hs ⊢
            split
            · rfl
            · split
              · rfl
              · rename_i h1 h2; rw [if_neg h1, if_neg h2] at hs; exact absurd rfl hs
          rw [hbad] at hgo
          obtain ⟨er, her⟩ : ∃ z, z = (tAdd L aa bb).2 := ⟨_, rfl⟩
          rw [← her] at hgo hs
          have e8 : (er == 0) = false := by simp [hs]
          obtain ⟨R, hR⟩ : ∃ z, z = L := ⟨_, rfl⟩
          rw [← hR] at hgo hLl
          clear hs her hbad k0 hR
          go_wp2_with fail
          refine wp_region_held_drew (S := (fun w' : World => w'.cell? ⟨T3, 0, none⟩ = some (.pointer (some ⟨t, 0, none⟩)) ∧ w'.cell? ⟨R0, 1, none⟩ = some (.int .i64 aa) ∧ w'.cell? ⟨R0, 2, none⟩ = some (.int .i64 bb))) (by kernel_rfl) (K13 _ (Ch.refl _ _)) (fun hHeld => ?_)
          refine wpAnyH_take (i := 0) (v := ?_) (by simp only [List.getElem?_toArray, List.getElem?_cons_zero, List.getElem?_cons_succ]; exact rfl) (by kernel_rfl) (by kernel_rfl) (by kernel_rfl) (by intro _ _ _ h; exact h) (Or.inl ⟨by rfl, ?_⟩) (by assumption) ?_
          rotate_left
          · intro w hSw
            (try dsimp only at hSw)
            go_simp
            try (with_reducible rfl)
          try simp only [Act.put, List.setIfInBounds_toArray, List.set_cons_zero, List.set_cons_succ]
          refine wpAnyH_take (i := 1) (v := ?_) (by simp only [List.getElem?_toArray, List.getElem?_cons_zero, List.getElem?_cons_succ]; exact rfl) (by kernel_rfl) (by kernel_rfl) (by kernel_rfl) (by intro _ _ _ h; exact h) (Or.inl ⟨by rfl, ?_⟩) (by assumption) ?_
          rotate_left
          · intro w hSw
            (try dsimp only at hSw)
            go_simp
            try (with_reducible rfl)
          try simp only [Act.put, List.setIfInBounds_toArray, List.set_cons_zero, List.set_cons_succ]
          refine wpAnyH_take (i := 2) (v := ?_) (by simp only [List.getElem?_toArray, List.getElem?_cons_zero, List.getElem?_cons_succ]; exact rfl) (by kernel_rfl) (by kernel_rfl) (by kernel_rfl) (by intro _ _ _ h; exact h) (Or.inl ⟨by rfl, ?_⟩) (by assumption) ?_
          rotate_left
          · intro w hSw
            (try dsimp only at hSw)
            go_simp
            try (with_reducible rfl)
          try simp only [Act.put, List.setIfInBounds_toArray, List.set_cons_zero, List.set_cons_succ]
          refine wpAnyH_take (i := 3) (v := ?_) (by simp only [List.getElem?_toArray, List.getElem?_cons_zero, List.getElem?_cons_succ]; exact rfl) (by kernel_rfl) (by kernel_rfl) (by kernel_rfl) (by intro _ _ _ h; exact h) (Or.inl ⟨by rfl, ?_⟩) (by assumption) ?_
          rotate_left
          · intro w hSw
            (try dsimp only at hSw)
            go_simp
            try (with_reducible rfl)
          try simp only [Act.put, List.setIfInBounds_toArray, List.set_cons_zero, List.set_cons_succ]
          refine wpAnyH_take (i := 4) (v := ?_) (by simp only [List.getElem?_toArray, List.getElem?_cons_zero, List.getElem?_cons_succ]; exact rfl) (by kernel_rfl) (by kernel_rfl) (by kernel_rfl) (by intro _ _ _ h; exact h) (Or.inl ⟨by rfl, ?_⟩) (by assumption) ?_
          rotate_left
          · intro w hSw
            (try dsimp only at hSw)
            go_simp
            try (with_reducible rfl)
          try simp only [Act.put, List.setIfInBounds_toArray, List.set_cons_zero, List.set_cons_succ]
          refine wpAnyH_ready (rs := [5]) (by kernel_rfl) (by simp) ?_
          refine AllReadyH.cons (by simp only [List.getElem?_toArray, List.getElem?_cons_zero, List.getElem?_cons_succ]; exact rfl) (fun K hK => ?_) AllReadyH.nil
          go_simp
          (go_at_call 25; (with_reducible refine hgo.mono ?_); rintro e w5 ⟨rfl, hT5, hc5⟩; have hS9 := K13 w5 hc5; (try dsimp only))
          try go_wp2_with fail
          refine hK.out _ _ ?_ (fun hHeld => ?_)
          · try dsimp only
            first | assumption | exact (by assumption) | fail
          clear hK K
          try simp only [Act.put, List.setIfInBounds_toArray, List.set_cons_zero, List.set_cons_succ]
          refine wpAnyH_take (i := 6) (v := ?_) (by simp only [List.getElem?_toArray, List.getElem?_cons_zero, List.getElem?_cons_succ]; exact rfl) (by kernel_rfl) (by kernel_rfl) (by kernel_rfl) (by intro _ _ _ h; exact h) (Or.inl ⟨by rfl, ?_⟩) (by assumption) ?_
          rotate_left
          · intro w hSw
            (try dsimp only at hSw)
            go_simp
            try (with_reducible rfl)
          try simp only [Act.put, List.setIfInBounds_toArray, List.set_cons_zero, List.set_cons_succ]
          refine wpAnyH_take (i := 7) (v := ?_) (by simp only [List.getElem?_toArray, List.getElem?_cons_zero, List.getElem?_cons_succ]; exact rfl) (by kernel_rfl) (by kernel_rfl) (by kernel_rfl) (by intro _ _ _ h; exact h) (Or.inl ⟨by rfl, ?_⟩) (by assumption) ?_
          rotate_left
          · intro w hSw
            (try dsimp only at hSw)
            go_simp
            try (with_reducible rfl)
          try simp only [Act.put, List.setIfInBounds_toArray, List.set_cons_zero, List.set_cons_succ]
          refine wpAnyH_take (i := 8) (v := undef) (by simp only [List.getElem?_toArray, List.getElem?_cons_zero, List.getElem?_cons_succ]; exact rfl) (by kernel_rfl) (by kernel_rfl) (by kernel_rfl) (by intro _ _ _ h; exact h) (Or.inr ⟨by rfl, rfl⟩) (by assumption) ?_
          try simp only [Act.put, List.setIfInBounds_toArray, List.set_cons_zero, List.set_cons_succ]
          refine wpAnyH_take (i := 9) (v := undef) (by simp only [List.getElem?_toArray, List.getElem?_cons_zero, List.getElem?_cons_succ]; exact rfl) (by kernel_rfl) (by kernel_rfl) (by kernel_rfl) (by intro _ _ _ h; exact h) (Or.inr ⟨by rfl, rfl⟩) (by assumption) ?_
          try simp only [Act.put, List.setIfInBounds_toArray, List.set_cons_zero, List.set_cons_succ]
          refine wpAnyH_take (i := 10) (v := undef) (by simp only [List.getElem?_toArray, List.getElem?_cons_zero, List.getElem?_cons_succ]; exact rfl) (by kernel_rfl) (by kernel_rfl) (by kernel_rfl) (by intro _ _ _ h; exact h) (Or.inr ⟨by rfl, rfl⟩) (by assumption) ?_
          try simp only [Act.put, List.setIfInBounds_toArray, List.set_cons_zero, List.set_cons_succ]
          refine wpAnyH_take (i := 11) (v := undef) (by simp only [List.getElem?_toArray, List.getElem?_cons_zero, List.getElem?_cons_succ]; exact rfl) (by kernel_rfl) (by kernel_rfl) (by kernel_rfl) (by intro _ _ _ h; exact h) (Or.inr ⟨by rfl, rfl⟩) (by assumption) ?_
          try simp only [Act.put, List.setIfInBounds_toArray, List.set_cons_zero, List.set_cons_succ]
          refine wpAnyH_take (i := 12) (v := undef) (by simp only [List.getElem?_toArray, List.getElem?_cons_zero, List.getElem?_cons_succ]; exact rfl) (by kernel_rfl) (by kernel_rfl) (by kernel_rfl) (by intro _ _ _ h; exact h) (Or.inr ⟨by rfl, rfl⟩) (by assumption) ?_
          try simp only [Act.put, List.setIfInBounds_toArray, List.set_cons_zero, List.set_cons_succ]
          refine wpAnyH_take (i := 13) (v := undef) (by simp only [List.getElem?_toArray, List.getElem?_cons_zero, List.getElem?_cons_succ]; exact rfl) (by kernel_rfl) (by kernel_rfl) (by kernel_rfl) (by intro _ _ _ h; exact h) (Or.inr ⟨by rfl, rfl⟩) (by assumption) ?_
          try simp only [Act.put, List.setIfInBounds_toArray, List.set_cons_zero, List.set_cons_succ]
          refine wpAnyH_take (i := 14) (v := undef) (by simp only [List.getElem?_toArray, List.getElem?_cons_zero, List.getElem?_cons_succ]; exact rfl) (by kernel_rfl) (by kernel_rfl) (by kernel_rfl) (by intro _ _ _ h; exact h) (Or.inr ⟨by rfl, rfl⟩) (by assumption) ?_
          try simp only [Act.put, List.setIfInBounds_toArray, List.set_cons_zero, List.set_cons_succ]
          refine wpAnyH_take (i := 15) (v := ?_) (by simp only [List.getElem?_toArray, List.getElem?_cons_zero, List.getElem?_cons_succ]; exact rfl) (by kernel_rfl) (by kernel_rfl) (by kernel_rfl) (by intro _ _ _ h; exact h) (Or.inl ⟨by rfl, ?_⟩) (by assumption) ?_
          rotate_left
          · intro w hSw
            (try dsimp only at hSw)
            go_simp
            try (with_reducible rfl)
          try simp only [Act.put, List.setIfInBounds_toArray, List.set_cons_zero, List.set_cons_succ]
          refine wpAnyH_done (by kernel_rfl) ?_ _
          try dsimp only
          try go_wp2_with fail
          obtain ⟨wz, hwz⟩ : ∃ z, z = w5 := ⟨_, rfl⟩
          have hTz : TallyAt wz t m R := by rw [hwz]; exact hT5
          have hBz : wz.cell? ⟨T3, 0, none⟩ = some (.pointer (some ⟨t, 0, none⟩)) := by rw [hwz]; exact hS9.1
          have hCz : Ch (fun k => w.heap.size ≤ k) w wz := by rw [hwz]; exact ((hC4.then0 hcD).andThen hc5 (fun k z => .inl (hup k z)))
          have hRz : R.length ≤ 2 * (i + 1) := by omega
          subst hwz
          have hall := tally_All No wz t m R hTz (by omega) (hno _)
          have hTzl := hTz.lt
          have hRr := hTz.rise
          with_reducible refine hall.mono ?_
          rintro e w7 ⟨q7, c7, rfl, hs7, hc7⟩
          have hT7 := hTz.ch0 hc7
          have hB7 := hc7.cell hBz (fun q => q)
          have hC7 := hCz.then0 hc7
          dsimp only
          go_wp2_with fail
          go_loopw [91] (fun v wq => ∃ j : Nat, j ≤ R.length ∧ v = .int .i64 j ∧ Ch No w7 wq) (fun v _ => R.length - (intOf v).toNat)
          case atStart => exact ⟨0, by omega, rfl, Ch.refl _ _⟩
          case round =>
            obtain ⟨j, hj, rfl, hCj⟩ := hrel
            by_cases hjl : j < R.length
            · obtain ⟨bj, offj, rfl, _, _, d0, d1, ix⟩ := (hs7.ch0 hCj).pair_at j hjl
              have hxm : R[j] ∈ R := List.getElem_mem hjl
              have hx1 := hRr.ok _ hxm
              have hx2 := mem_cnt hRr _ hxm
              obtain ⟨x, hx⟩ : ∃ z, z = R[j] := ⟨_, rfl⟩
              rw [← hx] at d0 d1 hx1 hx2
              obtain ⟨k, n⟩ := x
              dsimp only at d0 d1 hx1 hx2
              have f1 : decide (n < 1) = false := decide_eq_false (by omega)
              have f2 : decide (k < 1) = false := decide_eq_false (by omega)
              have f3 : (n != n) = false := by simp
              have hal2 : Ch No wr (wr.alloc (.cells #[.int .i64 k, .int .i64 n] 60)) := (Ch.refl _ _).alloc _
              have kB : (wr.alloc (.cells #[.int .i64 k, .int .i64 n] 60)).heap[wr.heap.size]? = some (.cells #[.int .i64 k, .int .i64 n] 60 (0, 0)) := World.alloc_heap_new _ _
              obtain ⟨wb, hwb⟩ : ∃ z, z = wr.alloc (.cells #[.int .i64 k, .int .i64 n] 60) := ⟨_, rfl⟩
              rw [← hwb] at kB hal2
              have g0 := cellOf kB 0 rfl
              have g1 := cellOf kB 1 rfl
              have hBb := (hCj.trans hal2).cell hB7 (fun q => q)
              have hofn := fun nn : Nat => tally_Of (wb.drewN nn) t m R k ((hT7.ch0 (hCj.trans hal2)).ch0 ((Ch.refl _ _).drewN nn))
              simp only [hx2] at hofn
              have HWB := Lib.hid hwb
              clear hx hxm hx1 hx2 hwb
              go_wp2_with fail
              rw [← HWB.out]
              go_quiet (first | (go_at_call 33; with_reducible exact quiet_eq15 (hofn _)))
              go_wp2_with fail
              go_roundw
              case rel => exact ⟨j + 1, by omega, by go_num, (hCj.trans hal2).drewN _⟩
              case measure => exact meas_lt (by omega)
            · have b9 : decide ((j : Int) < (R.length : Int)) = false := decide_eq_false (by omega)
              have hje : j = R.length := by omega
              clear hjl
              go_wp2_with fail
              go_roundw
              case rel => exact ⟨i + 1, R, by omega, by go_num, hT7.ch0 hCj, by omega, hCj.cell hB7 (fun q => q), hC7.then0 hCj⟩
              case measure => exact meas_lt (by omega)
      by_cases k1 : kk = 1
      · have qq0 : (kk == 0) = false := by simp [k0]
        have qq1 : (kk == 1) = true := by simp [k1]
        have hgo := tally_Swap w4 t m L aa bb hT4 ia ib
        have hRl := tSwap_length L aa bb
        have hK0 : ∀ k, One m k → k ≠ T3 ∧ k ≠ R0 := fun k z => by have : k = m := z; omega
        have K16 : ∀ W : World, Ch (One m) w4 W → (fun w' : World => w'.cell? ⟨T3, 0, none⟩ = some (.pointer (some ⟨t, 0, none⟩)) ∧ w'.cell? ⟨R0, 1, none⟩ = some (.int .i64 aa) ∧ w'.cell? ⟨R0, 2, none⟩ = some (.int .i64 bb)) W := fun W hW => ⟨hW.cell hB4 (fun z => (hK0 _ z).1 rfl), hW.cell a1 (fun z => (hK0 _ z).2 rfl), hW.cell a2 (fun z => (hK0 _ z).2 rfl)⟩
        by_cases hs : (tSwap L aa bb).2 = 0
        · have htot := fun h0 h1 => total_swap hT4.rise (a := aa) (b := bb) ia.bd.2 ib.bd.2 hs h0 h1
          rw [hs] at hgo
          obtain ⟨R, hR⟩ : ∃ z, z = (tSwap L aa bb).1 := ⟨_, rfl⟩
          rw [← hR] at hgo hRl htot
          have hsum := fun W (hW : TallyAt W t m R) (hc : Ch (One m) w4 W) => sum15 W T3 t m R hW ((K16 W hc).1) (by omega)
          obtain ⟨TL, hTL⟩ : ∃ z, z = total L := ⟨_, rfl⟩
          obtain ⟨TR, hTR⟩ : ∃ z, z = total R := ⟨_, rfl⟩
          rw [← hTL, ← hTR] at htot
          simp only [← hTL]
          simp only [← hTR] at hsum
          by_cases z1 : aa = 0
          · have f1 : (aa != 0) = false := by simp [z1]
            clear hs hR hTR hTL htot k0 k1 z1
            go_wp2_with fail
            with_reducible refine hgo.mono ?_
            rintro e w5 ⟨rfl, hT5, hc5⟩
            obtain ⟨y0, y1, y2⟩ := K16 w5 hc5
            dsimp only
            go_wp2_with fail
            obtain ⟨wz, hwz⟩ : ∃ z, z = w5 := ⟨_, rfl⟩
            have hTz : TallyAt wz t m R := by rw [hwz]; exact hT5
            have hBz : wz.cell? ⟨T3, 0, none⟩ = some (.pointer (some ⟨t, 0, none⟩)) := by rw [hwz]; exact y0
            have hCz : Ch (fun k => w.heap.size ≤ k) w wz := by rw [hwz]; exact (hC4.andThen hc5 (fun k z => .inl (hup k z)))
            have hRz : R.length ≤ 2 * (i + 1) := by omega
            subst hwz
            have hall := tally_All No wz t m R hTz (by omega) (hno _)
            have hTzl := hTz.lt
            have hRr := hTz.rise
            with_reducible refine hall.mono ?_
            rintro e w7 ⟨q7, c7, rfl, hs7, hc7⟩
            have hT7 := hTz.ch0 hc7
            have hB7 := hc7.cell hBz (fun q => q)
            have hC7 := hCz.then0 hc7
            dsimp only
            go_wp2_with fail
            go_loopw [91] (fun v wq => ∃ j : Nat, j ≤ R.length ∧ v = .int .i64 j ∧ Ch No w7 wq) (fun v _ => R.length - (intOf v).toNat)
            case atStart => exact ⟨0, by omega, rfl, Ch.refl _ _⟩
            case round =>
              obtain ⟨j, hj, rfl, hCj⟩ := hrel
              by_cases hjl : j < R.length
              · obtain ⟨bj, offj, rfl, _, _, d0, d1, ix⟩ := (hs7.ch0 hCj).pair_at j hjl
                have hxm : R[j] ∈ R := List.getElem_mem hjl
                have hx1 := hRr.ok _ hxm
                have hx2 := mem_cnt hRr _ hxm
                obtain ⟨x, hx⟩ : ∃ z, z = R[j] := ⟨_, rfl⟩
                rw [← hx] at d0 d1 hx1 hx2
                obtain ⟨k, n⟩ := x
                dsimp only at d0 d1 hx1 hx2
                have f1 : decide (n < 1) = false := decide_eq_false (by omega)
                have f2 : decide (k < 1) = false := decide_eq_false (by omega)
                have f3 : (n != n) = false := by simp
                have hal2 : Ch No wr (wr.alloc (.cells #[.int .i64 k, .int .i64 n] 60)) := (Ch.refl _ _).alloc _
                have kB : (wr.alloc (.cells #[.int .i64 k, .int .i64 n] 60)).heap[wr.heap.size]? = some (.cells #[.int .i64 k, .int .i64 n] 60 (0, 0)) := World.alloc_heap_new _ _
                obtain ⟨wb, hwb⟩ : ∃ z, z = wr.alloc (.cells #[.int .i64 k, .int .i64 n] 60) := ⟨_, rfl⟩
                rw [← hwb] at kB hal2
                have g0 := cellOf kB 0 rfl
                have g1 := cellOf kB 1 rfl
                have hBb := (hCj.trans hal2).cell hB7 (fun q => q)
                have hofn := fun nn : Nat => tally_Of (wb.drewN nn) t m R k ((hT7.ch0 (hCj.trans hal2)).ch0 ((Ch.refl _ _).drewN nn))
                simp only [hx2] at hofn
                have HWB := Lib.hid hwb
                clear hx hxm hx1 hx2 hwb
                go_wp2_with fail
                rw [← HWB.out]
                go_quiet (first | (go_at_call 33; with_reducible exact quiet_eq15 (hofn _)))
                go_wp2_with fail
                go_roundw
                case rel => exact ⟨j + 1, by omega, by go_num, (hCj.trans hal2).drewN _⟩
                case measure => exact meas_lt (by omega)
              · have b9 : decide ((j : Int) < (R.length : Int)) = false := decide_eq_false (by omega)
                have hje : j = R.length := by omega
                clear hjl
                go_wp2_with fail
                go_roundw
                case rel => exact ⟨i + 1, R, by omega, by go_num, hT7.ch0 hCj, by omega, hCj.cell hB7 (fun q => q), hC7.then0 hCj⟩
                case measure => exact meas_lt (by omega)
          by_cases z2 : bb = 0
          · have f1 : (aa != 0) = true := by simp [z1]
            have f2 : (bb != 0) = false := by simp [z2]
            clear hs hR hTR hTL htot k0 k1 z1 z2
            go_wp2_with fail
            with_reducible refine hgo.mono ?_
            rintro e w5 ⟨rfl, hT5, hc5⟩
            obtain ⟨y0, y1, y2⟩ := K16 w5 hc5
            dsimp only
            go_wp2_with fail
            obtain ⟨wz, hwz⟩ : ∃ z, z = w5 := ⟨_, rfl⟩
            have hTz : TallyAt wz t m R := by rw [hwz]; exact hT5
            have hBz : wz.cell? ⟨T3, 0, none⟩ = some (.pointer (some ⟨t, 0, none⟩)) := by rw [hwz]; exact y0
            have hCz : Ch (fun k => w.heap.size ≤ k) w wz := by rw [hwz]; exact (hC4.andThen hc5 (fun k z => .inl (hup k z)))
            have hRz : R.length ≤ 2 * (i + 1) := by omega
            subst hwz
            have hall := tally_All No wz t m R hTz (by omega) (hno _)
            have hTzl := hTz.lt
            have hRr := hTz.rise
            with_reducible refine hall.mono ?_
            rintro e w7 ⟨q7, c7, rfl, hs7, hc7⟩
            have hT7 := hTz.ch0 hc7
            have hB7 := hc7.cell hBz (fun q => q)
            have hC7 := hCz.then0 hc7
            dsimp only
            go_wp2_with fail
            go_loopw [91] (fun v wq => ∃ j : Nat, j ≤ R.length ∧ v = .int .i64 j ∧ Ch No w7 wq) (fun v _ => R.length - (intOf v).toNat)
            case atStart => exact ⟨0, by omega, rfl, Ch.refl _ _⟩
            case round =>
              obtain ⟨j, hj, rfl, hCj⟩ := hrel
              by_cases hjl : j < R.length
              · obtain ⟨bj, offj, rfl, _, _, d0, d1, ix⟩ := (hs7.ch0 hCj).pair_at j hjl
                have hxm : R[j] ∈ R := List.getElem_mem hjl
                have hx1 := hRr.ok _ hxm
                have hx2 := mem_cnt hRr _ hxm
                obtain ⟨x, hx⟩ : ∃ z, z = R[j] := ⟨_, rfl⟩
                rw [← hx] at d0 d1 hx1 hx2
                obtain ⟨k, n⟩ := x
                dsimp only at d0 d1 hx1 hx2
                have f1 : decide (n < 1) = false := decide_eq_false (by omega)
                have f2 : decide (k < 1) = false := decide_eq_false (by omega)
                have f3 : (n != n) = false := by simp
                have hal2 : Ch No wr (wr.alloc (.cells #[.int .i64 k, .int .i64 n] 60)) := (Ch.refl _ _).alloc _
                have kB : (wr.alloc (.cells #[.int .i64 k, .int .i64 n] 60)).heap[wr.heap.size]? = some (.cells #[.int .i64 k, .int .i64 n] 60 (0, 0)) := World.alloc_heap_new _ _
                obtain ⟨wb, hwb⟩ : ∃ z, z = wr.alloc (.cells #[.int .i64 k, .int .i64 n] 60) := ⟨_, rfl⟩
                rw [← hwb] at kB hal2
                have g0 := cellOf kB 0 rfl
                have g1 := cellOf kB 1 rfl
                have hBb := (hCj.trans hal2).cell hB7 (fun q => q)
                have hofn := fun nn : Nat => tally_Of (wb.drewN nn) t m R k ((hT7.ch0 (hCj.trans hal2)).ch0 ((Ch.refl _ _).drewN nn))
                simp only [hx2] at hofn
                have HWB := Lib.hid hwb
                clear hx hxm hx1 hx2 hwb
                go_wp2_with fail
                rw [← HWB.out]
                go_quiet (first | (go_at_call 33; with_reducible exact quiet_eq15 (hofn _)))
                go_wp2_with fail
                go_roundw
                case rel => exact ⟨j + 1, by omega, by go_num, (hCj.trans hal2).drewN _⟩
                case measure => exact meas_lt (by omega)
              · have b9 : decide ((j : Int) < (R.length : Int)) = false := decide_eq_false (by omega)
                have hje : j = R.length := by omega
                clear hjl
                go_wp2_with fail
                go_roundw
                case rel => exact ⟨i + 1, R, by omega, by go_num, hT7.ch0 hCj, by omega, hCj.cell hB7 (fun q => q), hC7.then0 hCj⟩
                case measure => exact meas_lt (by omega)
          have f1 : (aa != 0) = true := by simp [z1]
          have f2 : (bb != 0) = true := by simp [z2]
          have htt : TR = TL := htot z1 z2
          subst htt
          have e6 : (TR != TR) = false := by simp
          clear hs hR hTR hTL htot k0 k1 z1 z2
          go_wp2_with fail
          with_reducible refine hgo.mono ?_
          rintro e w5 ⟨rfl, hT5, hc5⟩
          obtain ⟨y0, y1, y2⟩ := K16 w5 hc5
          dsimp only
          go_wp2_with fail
          with_reducible refine (hsum w5 hT5 hc5).mono ?_
          rintro e w6 ⟨rfl, hc6⟩
          have y6 := hc6.cell y0 (fun q => q)
          dsimp only
          go_wp2_with fail
          obtain ⟨wz, hwz⟩ : ∃ z, z = w6 := ⟨_, rfl⟩
          have hTz : TallyAt wz t m R := by rw [hwz]; exact hT5.ch0 hc6
          have hBz : wz.cell? ⟨T3, 0, none⟩ = some (.pointer (some ⟨t, 0, none⟩)) := by rw [hwz]; exact hc6.cell y0 (fun q => q)
          have hCz : Ch (fun k => w.heap.size ≤ k) w wz := by rw [hwz]; exact ((hC4.andThen hc5 (fun k z => .inl (hup k z))).then0 hc6)
          have hRz : R.length ≤ 2 * (i + 1) := by omega
          subst hwz
          have hall := tally_All No wz t m R hTz (by omega) (hno _)
          have hTzl := hTz.lt
          have hRr := hTz.rise
          with_reducible refine hall.mono ?_
          rintro e w7 ⟨q7, c7, rfl, hs7, hc7⟩
          have hT7 := hTz.ch0 hc7
          have hB7 := hc7.cell hBz (fun q => q)
          have hC7 := hCz.then0 hc7
          dsimp only
          go_wp2_with fail
          go_loopw [91] (fun v wq => ∃ j : Nat, j ≤ R.length ∧ v = .int .i64 j ∧ Ch No w7 wq) (fun v _ => R.length - (intOf v).toNat)
          case atStart => exact ⟨0, by omega, rfl, Ch.refl _ _⟩
          case round =>
            obtain ⟨j, hj, rfl, hCj⟩ := hrel
            by_cases hjl : j < R.length
            · obtain ⟨bj, offj, rfl, _, _, d0, d1, ix⟩ := (hs7.ch0 hCj).pair_at j hjl
              have hxm : R[j] ∈ R := List.getElem_mem hjl
              have hx1 := hRr.ok _ hxm
              have hx2 := mem_cnt hRr _ hxm
              obtain ⟨x, hx⟩ : ∃ z, z = R[j] := ⟨_, rfl⟩
              rw [← hx] at d0 d1 hx1 hx2
              obtain ⟨k, n⟩ := x
              dsimp only at d0 d1 hx1 hx2
              have f1 : decide (n < 1) = false := decide_eq_false (by omega)
              have f2 : decide (k < 1) = false := decide_eq_false (by omega)
              have f3 : (n != n) = false := by simp
              have hal2 : Ch No wr (wr.alloc (.cells #[.int .i64 k, .int .i64 n] 60)) := (Ch.refl _ _).alloc _
              have kB : (wr.alloc (.cells #[.int .i64 k, .int .i64 n] 60)).heap[wr.heap.size]? = some (.cells #[.int .i64 k, .int .i64 n] 60 (0, 0)) := World.alloc_heap_new _ _
              obtain ⟨wb, hwb⟩ : ∃ z, z = wr.alloc (.cells #[.int .i64 k, .int .i64 n] 60) := ⟨_, rfl⟩
              rw [← hwb] at kB hal2
              have g0 := cellOf kB 0 rfl
              have g1 := cellOf kB 1 rfl
              have hBb := (hCj.trans hal2).cell hB7 (fun q => q)
              have hofn := fun nn : Nat => tally_Of (wb.drewN nn) t m R k ((hT7.ch0 (hCj.trans hal2)).ch0 ((Ch.refl _ _).drewN nn))
              simp only [hx2] at hofn
              have HWB := Lib.hid hwb
              clear hx hxm hx1 hx2 hwb
              go_wp2_with fail
              rw [← HWB.out]
              go_quiet (first | (go_at_call 33; with_reducible exact quiet_eq15 (hofn _)))
              go_wp2_with fail
              go_roundw
              case rel => exact ⟨j + 1, by omega, by go_num, (hCj.trans hal2).drewN _⟩
              case measure => exact meas_lt (by omega)
            · have b9 : decide ((j : Int) < (R.length : Int)) = false := decide_eq_false (by omega)
              have hje : j = R.length := by omega
              clear hjl
              go_wp2_with fail
              go_roundw
              case rel => exact ⟨i + 1, R, by omega, by go_num, hT7.ch0 hCj, by omega, hCj.cell hB7 (fun q => q), hC7.then0 hCj⟩
              case measure => exact meas_lt (by omega)
        · have hbad := tSwap_bad hs
          rw [hbad] at hgo
          obtain ⟨er, her⟩ : ∃ z, z = (tSwap L aa bb).2 := ⟨_, rfl⟩
          rw [← her] at hgo hs
          have e8 : (er == 0) = false := by simp [hs]
          obtain ⟨R, hR⟩ : ∃ z, z = L := ⟨_, rfl⟩
          rw [← hR] at hgo hLl
          clear hs her hbad k0 k1 hR
          go_wp2_with fail
          with_reducible refine hgo.mono ?_
          rintro e w5 ⟨rfl, hT5, hc5⟩
          obtain ⟨y0, y1, y2⟩ := K16 w5 hc5
          dsimp only
          go_wp2_with fail
          obtain ⟨wz, hwz⟩ : ∃ z, z = w5 := ⟨_, rfl⟩
          have hTz : TallyAt wz t m R := by rw [hwz]; exact hT5
          have hBz : wz.cell? ⟨T3, 0, none⟩ = some (.pointer (some ⟨t, 0, none⟩)) := by rw [hwz]; exact y0
          have hCz : Ch (fun k => w.heap.size ≤ k) w wz := by rw [hwz]; exact (hC4.andThen hc5 (fun k z => .inl (hup k z)))
          have hRz : R.length ≤ 2 * (i + 1) := by omega
          subst hwz
          have hall := tally_All No wz t m R hTz (by omega) (hno _)
          have hTzl := hTz.lt
          have hRr := hTz.rise
          with_reducible refine hall.mono ?_
          rintro e w7 ⟨q7, c7, rfl, hs7, hc7⟩
          have hT7 := hTz.ch0 hc7
          have hB7 := hc7.cell hBz (fun q => q)
          have hC7 := hCz.then0 hc7
          dsimp only
          go_wp2_with fail
          go_loopw [91] (fun v wq => ∃ j : Nat, j ≤ R.length ∧ v = .int .i64 j ∧ Ch No w7 wq) (fun v _ => R.length - (intOf v).toNat)
          case atStart => exact ⟨0, by omega, rfl, Ch.refl _ _⟩
          case round =>
            obtain ⟨j, hj, rfl, hCj⟩ := hrel
            by_cases hjl : j < R.length
            · obtain ⟨bj, offj, rfl, _, _, d0, d1, ix⟩ := (hs7.ch0 hCj).pair_at j hjl
              have hxm : R[j] ∈ R := List.getElem_mem hjl
              have hx1 := hRr.ok _ hxm
              have hx2 := mem_cnt hRr _ hxm
              obtain ⟨x, hx⟩ : ∃ z, z = R[j] := ⟨_, rfl⟩
              rw [← hx] at d0 d1 hx1 hx2
              obtain ⟨k, n⟩ := x
              dsimp only at d0 d1 hx1 hx2
              have f1 : decide (n < 1) = false := decide_eq_false (by omega)
              have f2 : decide (k < 1) = false := decide_eq_false (by omega)
              have f3 : (n != n) = false := by simp
              have hal2 : Ch No wr (wr.alloc (.cells #[.int .i64 k, .int .i64 n] 60)) := (Ch.refl _ _).alloc _
              have kB : (wr.alloc (.cells #[.int .i64 k, .int .i64 n] 60)).heap[wr.heap.size]? = some (.cells #[.int .i64 k, .int .i64 n] 60 (0, 0)) := World.alloc_heap_new _ _
              obtain ⟨wb, hwb⟩ : ∃ z, z = wr.alloc (.cells #[.int .i64 k, .int .i64 n] 60) := ⟨_, rfl⟩
              rw [← hwb] at kB hal2
              have g0 := cellOf kB 0 rfl
              have g1 := cellOf kB 1 rfl
              have hBb := (hCj.trans hal2).cell hB7 (fun q => q)
              have hofn := fun nn : Nat => tally_Of (wb.drewN nn) t m R k ((hT7.ch0 (hCj.trans hal2)).ch0 ((Ch.refl _ _).drewN nn))
              simp only [hx2] at hofn
              have HWB := Lib.hid hwb
              clear hx hxm hx1 hx2 hwb
              go_wp2_with fail
              rw [← HWB.out]
              go_quiet (first | (go_at_call 33; with_reducible exact quiet_eq15 (hofn _)))
              go_wp2_with fail
              go_roundw
              case rel => exact ⟨j + 1, by omega, by go_num, (hCj.trans hal2).drewN _⟩
              case measure => exact meas_lt (by omega)
            · have b9 : decide ((j : Int) < (R.length : Int)) = false := decide_eq_false (by omega)
              have hje : j = R.length := by omega
              clear hjl
              go_wp2_with fail
              go_roundw
              case rel => exact ⟨i + 1, R, by omega, by go_num, hT7.ch0 hCj, by omega, hCj.cell hB7 (fun q => q), hC7.then0 hCj⟩
              case measure => exact meas_lt (by omega)
      by_cases k2 : kk = 2
      · have qq0 : (kk == 0) = false := by simp [k0]
        have qq1 : (kk == 1) = false := by simp [k1]
        have qq2 : (kk == 2) = true := by simp [k2]
        have hof := tally_Of w4 t m L aa hT4
        have hgo := tally_Forget w4 t m L aa hT4 ia
        have hRl := rset_length L aa 0
        have htot := total_set hT4.rise aa 0
        have hcb := cnt_bd hT4.rise aa
        have hRi : Rising (rset L aa 0) := hT4.rise.set (.inr rfl) ia.bd.2 (by omega)
        have hLb := total_bd hT4.rise
        have hK0 : ∀ k, One m k → k ≠ T3 ∧ k ≠ R0 := fun k z => by have : k = m := z; omega
        have K16 : ∀ W : World, Ch (One m) w4 W → (fun w' : World => w'.cell? ⟨T3, 0, none⟩ = some (.pointer (some ⟨t, 0, none⟩)) ∧ w'.cell? ⟨R0, 1, none⟩ = some (.int .i64 aa) ∧ w'.cell? ⟨R0, 2, none⟩ = some (.int .i64 bb)) W := fun W hW => ⟨hW.cell hB4 (fun z => (hK0 _ z).1 rfl), hW.cell a1 (fun z => (hK0 _ z).2 rfl), hW.cell a2 (fun z => (hK0 _ z).2 rfl)⟩
        obtain ⟨R, hR⟩ : ∃ z, z = rset L aa 0 := ⟨_, rfl⟩
        rw [← hR] at hgo hRl htot hRi
        have hRb := total_bd hRi
        obtain ⟨had, hhad⟩ : ∃ z, z = cnt L aa := ⟨_, rfl⟩
        rw [← hhad] at hof htot hcb
        have hsum := fun W (hW : TallyAt W t m R) (hc : Ch (One m) w4 W) => sum15 W T3 t m R hW ((K16 W hc).1) (by omega)
        obtain ⟨TL, hTL⟩ : ∃ z, z = total L := ⟨_, rfl⟩
        obtain ⟨TR, hTR⟩ : ∃ z, z = total R := ⟨_, rfl⟩
        rw [← hTL, ← hTR] at htot
        rw [← hTL] at hLb
        simp only [← hTL]
        simp only [← hTR] at hsum
        have e5 : IntKind.i64.wrap (TL - had) = TR := by rw [show TR = TL - had by omega]; exact IntWalk.i64_in _ (by omega)
        have e6 : (TR != TR) = false := by simp
        clear hR hTR hTL htot hhad hcb hRi hLb hRb k0 k1 k2
        go_wp2_with fail
        with_reducible refine hof.mono ?_
        rintro e w5' ⟨rfl, rfl⟩
        dsimp only
        go_wp2_with fail
        with_reducible refine hgo.mono ?_
        rintro e w5 ⟨rfl, hT5, hc5⟩
        obtain ⟨y0, y1, y2⟩ := K16 w5 hc5
        dsimp only
        go_wp2_with fail
        with_reducible refine (hsum w5 hT5 hc5).mono ?_
        rintro e w6 ⟨rfl, hc6⟩
        have y6 := hc6.cell y0 (fun q => q)
        dsimp only
        go_wp2_with fail
        obtain ⟨wz, hwz⟩ : ∃ z, z = w6 := ⟨_, rfl⟩
        have hTz : TallyAt wz t m R := by rw [hwz]; exact hT5.ch0 hc6
        have hBz : wz.cell? ⟨T3, 0, none⟩ = some (.pointer (some ⟨t, 0, none⟩)) := by rw [hwz]; exact hc6.cell y0 (fun q => q)
        have hCz : Ch (fun k => w.heap.size ≤ k) w wz := by rw [hwz]; exact ((hC4.andThen hc5 (fun k z => .inl (hup k z))).then0 hc6)
        have hRz : R.length ≤ 2 * (i + 1) := by omega
        subst hwz
        have hall := tally_All No wz t m R hTz (by omega) (hno _)
        have hTzl := hTz.lt
        have hRr := hTz.rise
        with_reducible refine hall.mono ?_
        rintro e w7 ⟨q7, c7, rfl, hs7, hc7⟩
        have hT7 := hTz.ch0 hc7
        have hB7 := hc7.cell hBz (fun q => q)
        have hC7 := hCz.then0 hc7
        dsimp only
        go_wp2_with fail
        go_loopw [91] (fun v wq => ∃ j : Nat, j ≤ R.length ∧ v = .int .i64 j ∧ Ch No w7 wq) (fun v _ => R.length - (intOf v).toNat)
        case atStart => exact ⟨0, by omega, rfl, Ch.refl _ _⟩
        case round =>
          obtain ⟨j, hj, rfl, hCj⟩ := hrel
          by_cases hjl : j < R.length
          · obtain ⟨bj, offj, rfl, _, _, d0, d1, ix⟩ := (hs7.ch0 hCj).pair_at j hjl
            have hxm : R[j] ∈ R := List.getElem_mem hjl
            have hx1 := hRr.ok _ hxm
            have hx2 := mem_cnt hRr _ hxm
            obtain ⟨x, hx⟩ : ∃ z, z = R[j] := ⟨_, rfl⟩
            rw [← hx] at d0 d1 hx1 hx2
            obtain ⟨k, n⟩ := x
            dsimp only at d0 d1 hx1 hx2
            have f1 : decide (n < 1) = false := decide_eq_false (by omega)
            have f2 : decide (k < 1) = false := decide_eq_false (by omega)
            have f3 : (n != n) = false := by simp
            have hal2 : Ch No wr (wr.alloc (.cells #[.int .i64 k, .int .i64 n] 60)) := (Ch.refl _ _).alloc _
            have kB : (wr.alloc (.cells #[.int .i64 k, .int .i64 n] 60)).heap[wr.heap.size]? = some (.cells #[.int .i64 k, .int .i64 n] 60 (0, 0)) := World.alloc_heap_new _ _
            obtain ⟨wb, hwb⟩ : ∃ z, z = wr.alloc (.cells #[.int .i64 k, .int .i64 n] 60) := ⟨_, rfl⟩
            rw [← hwb] at kB hal2
            have g0 := cellOf kB 0 rfl
            have g1 := cellOf kB 1 rfl
            have hBb := (hCj.trans hal2).cell hB7 (fun q => q)
            have hofn := fun nn : Nat => tally_Of (wb.drewN nn) t m R k ((hT7.ch0 (hCj.trans hal2)).ch0 ((Ch.refl _ _).drewN nn))
            simp only [hx2] at hofn
            have HWB := Lib.hid hwb
            clear hx hxm hx1 hx2 hwb
            go_wp2_with fail
            rw [← HWB.out]
            go_quiet (first | (go_at_call 33; with_reducible exact quiet_eq15 (hofn _)))
            go_wp2_with fail
            go_roundw
            case rel => exact ⟨j + 1, by omega, by go_num, (hCj.trans hal2).drewN _⟩
            case measure => exact meas_lt (by omega)
          · have b9 : decide ((j : Int) < (R.length : Int)) = false := decide_eq_false (by omega)
            have hje : j = R.length := by omega
            clear hjl
            go_wp2_with fail
            go_roundw
            case rel => exact ⟨i + 1, R, by omega, by go_num, hT7.ch0 hCj, by omega, hCj.cell hB7 (fun q => q), hC7.then0 hCj⟩
            case measure => exact meas_lt (by omega)
      have qq0 : (kk == 0) = false := by simp [k0]
      have qq1 : (kk == 1) = false := by simp [k1]
      have qq2 : (kk == 2) = false := by simp [k2]
      obtain ⟨R, hR⟩ : ∃ z, z = L := ⟨_, rfl⟩
      rw [← hR] at hT4 hLl
      clear k0 k1 k2 hR
      go_wp2_with fail
      obtain ⟨wz, hwz⟩ : ∃ z, z = w4 := ⟨_, rfl⟩
      have hTz : TallyAt wz t m R := by rw [hwz]; exact hT4
      have hBz : wz.cell? ⟨T3, 0, none⟩ = some (.pointer (some ⟨t, 0, none⟩)) := by rw [hwz]; exact hB4
      have hCz : Ch (fun k => w.heap.size ≤ k) w wz := by rw [hwz]; exact hC4
      have hRz : R.length ≤ 2 * (i + 1) := by omega
      subst hwz
      have hall := tally_All No wz t m R hTz (by omega) (hno _)
      have hTzl := hTz.lt
      have hRr := hTz.rise
      with_reducible refine hall.mono ?_
      rintro e w7 ⟨q7, c7, rfl, hs7, hc7⟩
      have hT7 := hTz.ch0 hc7
      have hB7 := hc7.cell hBz (fun q => q)
      have hC7 := hCz.then0 hc7
      dsimp only
      go_wp2_with fail
      go_loopw [91] (fun v wq => ∃ j : Nat, j ≤ R.length ∧ v = .int .i64 j ∧ Ch No w7 wq) (fun v _ => R.length - (intOf v).toNat)
      case atStart => exact ⟨0, by omega, rfl, Ch.refl _ _⟩
      case round =>
        obtain ⟨j, hj, rfl, hCj⟩ := hrel
        by_cases hjl : j < R.length
        · obtain ⟨bj, offj, rfl, _, _, d0, d1, ix⟩ := (hs7.ch0 hCj).pair_at j hjl
          have hxm : R[j] ∈ R := List.getElem_mem hjl
          have hx1 := hRr.ok _ hxm
          have hx2 := mem_cnt hRr _ hxm
          obtain ⟨x, hx⟩ : ∃ z, z = R[j] := ⟨_, rfl⟩
          rw [← hx] at d0 d1 hx1 hx2
          obtain ⟨k, n⟩ := x
          dsimp only at d0 d1 hx1 hx2
          have f1 : decide (n < 1) = false := decide_eq_false (by omega)
          have f2 : decide (k < 1) = false := decide_eq_false (by omega)
          have f3 : (n != n) = false := by simp
          have hal2 : Ch No wr (wr.alloc (.cells #[.int .i64 k, .int .i64 n] 60)) := (Ch.refl _ _).alloc _
          have kB : (wr.alloc (.cells #[.int .i64 k, .int .i64 n] 60)).heap[wr.heap.size]? = some (.cells #[.int .i64 k, .int .i64 n] 60 (0, 0)) := World.alloc_heap_new _ _
          obtain ⟨wb, hwb⟩ : ∃ z, z = wr.alloc (.cells #[.int .i64 k, .int .i64 n] 60) := ⟨_, rfl⟩
          rw [← hwb] at kB hal2
          have g0 := cellOf kB 0 rfl
          have g1 := cellOf kB 1 rfl
          have hBb := (hCj.trans hal2).cell hB7 (fun q => q)
          have hofn := fun nn : Nat => tally_Of (wb.drewN nn) t m R k ((hT7.ch0 (hCj.trans hal2)).ch0 ((Ch.refl _ _).drewN nn))
          simp only [hx2] at hofn
          have HWB := Lib.hid hwb
          clear hx hxm hx1 hx2 hwb
          go_wp2_with fail
          rw [← HWB.out]
          go_quiet (first | (go_at_call 33; with_reducible exact quiet_eq15 (hofn _)))
          go_wp2_with fail
          go_roundw
          case rel => exact ⟨j + 1, by omega, by go_num, (hCj.trans hal2).drewN _⟩
          case measure => exact meas_lt (by omega)
        · have b9 : decide ((j : Int) < (R.length : Int)) = false := decide_eq_false (by omega)
          have hje : j = R.length := by omega
          clear hjl
          go_wp2_with fail
          go_roundw
          case rel => exact ⟨i + 1, R, by omega, by go_num, hT7.ch0 hCj, by omega, hCj.cell hB7 (fun q => q), hC7.then0 hCj⟩
          case measure => exact meas_lt (by omega)
    · have hie : i = l.length := by omega
      have b1 : decide ((i : Int) < (l.length : Int)) = false := decide_eq_false (by omega)
      have HIE := Lib.hid hie
      clear hie
      go_wp2_with fail
      with_reducible refine (fixed15 wr).mono ?_
      rintro e w4 ⟨rfl, hc4⟩
      dsimp only
      go_wp2_with fail
      go_ret
      exact ⟨rfl, (hC.then0 hc4).out⟩
end Go.Proofs.Ytinjbonodlkafaa

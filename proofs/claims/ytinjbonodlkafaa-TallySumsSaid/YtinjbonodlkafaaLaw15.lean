/- Layer 15 (tally): the chapter's example; the laws TallyPlays, TallyBack: the walks. (Printed by wip/gen15l.py.) -/
import Derived.Test.YtinjbonodlkafaaRef15S
import Derived.Test.YtinjbonodlkafaaTallySwap
import Derived.Test.YtinjbonodlkafaaSame06
set_option linter.unusedVariables false
set_option linter.unusedSimpArgs false
namespace Go.Proofs.Ytinjbonodlkafaa
open Go Go.RowKit

/-- An act: its kind, two numbers. -/
structure TAct where
  k : Int
  a : Int
  b : Int
def tactRp : Rp TAct := flat 3 (fun a => [.int .i64 a.k, .int .i64 a.a, .int .i64 a.b]) (fun _ => rfl) (by intro x u hu; simp at hu; rcases hu with rfl | rfl | rfl <;> rfl) (fun a => I64 a.k ∧ I64 a.a ∧ I64 a.b)
theorem SlR.tact_at {F : Nat → Prop} {w : World} {a : Option Addr} {c : Nat} {l : List TAct} (h : SlR tactRp F w a c l) (i : Nat) (hi : i < l.length) :
    ∃ b off, a = some ⟨b, off, none⟩ ∧ ¬ F b ∧ w.cell? ⟨b, off + i * 3, none⟩ = some (.int .i64 l[i].k) ∧ w.cell? ⟨b, off + i * 3 + 1, none⟩ = some (.int .i64 l[i].a) ∧ w.cell? ⟨b, off + i * 3 + 2, none⟩ = some (.int .i64 l[i].b) ∧ I64 l[i].k ∧ I64 l[i].a ∧ I64 l[i].b := by
  obtain ⟨b, off, ha, hb, hlt, es, hc, he, hw⟩ := h.at_ i hi
  subst he
  exact ⟨b, off, ha, hb, hc 0 _ rfl, hc 1 _ rfl, hc 2 _ rfl, hw⟩

theorem fixed15 (w : World) : Calls Try.prog 23 #[] w fun e w' => e = .returned (.bool true) ∧ Ch No w w' := by
  have i3 : I64 3 := show _ ∧ _ from by omega
  have i2 : I64 2 := show _ ∧ _ from by omega
  have i5 : I64 5 := show _ ∧ _ from by omega
  go_enter Try.func23, Try.ntmps23
  go_wp2_with fail
  with_reducible refine (tally_New w).mono ?_
  rintro e w1 ⟨t, m, rfl, hT1, ht, hm, hc1⟩
  have g1 := tally_Add w1 t m [] 3 2 hT1 i3 i2
  rw [show tAdd [] 3 2 = ([(3, 2)], 0) from by decide] at g1
  dsimp only at g1 ⊢
  go_wp2_with fail
  with_reducible refine g1.mono ?_
  rintro e w2 ⟨rfl, hT2, hc2⟩
  have g2 := tally_Swap w2 t m _ 3 5 hT2 i3 i5
  rw [show tSwap [(3, 2)] 3 5 = ([(3, 1), (5, 1)], 0) from by decide] at g2
  dsimp only at g2 ⊢
  go_wp2_with fail
  with_reducible refine g2.mono ?_
  rintro e w3 ⟨rfl, hT3, hc3⟩
  have g3 := tally_Of w3 t m _ 3 hT3
  have g4 := tally_Of w3 t m _ 5 hT3
  rw [show cnt [(3, 1), (5, 1)] 3 = 1 from by decide] at g3
  rw [show cnt [(3, 1), (5, 1)] 5 = 1 from by decide] at g4
  dsimp only
  go_wp2_with fail
  with_reducible refine g3.mono ?_
  rintro e w4 ⟨rfl, rfl⟩
  dsimp only
  go_wp2_with fail
  with_reducible refine g4.mono ?_
  rintro e w5 ⟨rfl, rfl⟩
  dsimp only
  go_wp2_with fail
  go_ret
  have h4 : ∀ k, One m k → No k ∨ w.heap.size ≤ k := fun k e => .inr (by have : k = m := e; omega)
  exact ⟨rfl, (hc1.andThen hc2 h4).andThen hc3 h4⟩

theorem SlR_empty (F : Nat → Prop) (w : World) (B : Nat) : SlR (pairRp .i64) F w (some ⟨B, 0, none⟩) 0 [] := ⟨Nat.le_refl _, Nat.zero_le _, fun q => (by cases q), fun h => absurd rfl h⟩
theorem Ch.out {w w' : World} (h : Ch (fun k => w.heap.size ≤ k) w w') : Ch No w w' := (Ch.refl No w).andThen h (fun k z => .inr z)

set_option maxRecDepth 100000 in
set_option maxHeartbeats 8000000 in
theorem play15 (w : World) (a : Option Addr) (c : Nat) (l : List TAct) (rg : Int) (hsl0 : SlR tactRp No w a c l) (hr : I64 rg) (hl : l.length ≤ 9223372036854775807) :
    Calls Try.prog 5 #[.slice a l.length c, .int .i64 rg] w fun e w' => e = .returned (.bool true) ∧ Ch No w w' := by
  by_cases hcut : 100 < l.length
  · have b3 : decide ((l.length : Int) > 100) = true := decide_eq_true (by omega)
    go_enter Try.func5, Try.ntmps5
    go_wp2_with fail
    with_reducible refine (fixed15 w).mono ?_
    rintro e w1 ⟨rfl, hc⟩
    dsimp only
    go_wp2_with fail
    go_ret
    exact ⟨rfl, hc⟩
  have b3 : decide ((l.length : Int) > 100) = false := decide_eq_false (by omega)
  have hl100 : l.length ≤ 100 := by omega
  clear hcut hl
  go_enter Try.func5, Try.ntmps5
  go_wp2_with fail
  with_reducible refine (tally_New w).mono ?_
  rintro e w1 ⟨t, m, rfl, hT1, ht, hm, hc1⟩
  have hlt1 := hT1.lt
  dsimp only
  go_wp2_with fail
  have hsz1 := hc1.size
  have hal1 : Ch No w1 (w1.alloc (.cells #[] 60)) := (Ch.refl _ _).alloc _
  have hx1 : SlR (pairRp .i64) (One m) (w1.alloc (.cells #[] 60)) (some ⟨w1.heap.size, 0, none⟩) 0 [] := SlR_empty _ _ _
  have hT2 := hT1.ch0 hal1
  have hC2 : Ch (fun k => w.heap.size ≤ k) w (w1.alloc (.cells #[] 60)) := (hc1.trans hal1).ofNo
  obtain ⟨xa, hxa⟩ : ∃ z : Option Addr, z = some ⟨w1.heap.size, 0, none⟩ := ⟨_, rfl⟩
  obtain ⟨w2, hw2⟩ : ∃ z, z = w1.alloc (.cells #[] 60) := ⟨_, rfl⟩
  rw [← hw2, ← hxa] at hx1
  rw [← hw2] at hT2 hC2
  simp only [← hw2, ← hxa]
  clear hw2 hxa hal1 hT1 hlt1
  go_loopw [6, 21] (fun v u wq => ∃ (i : Nat) (L : Rows) (q3 : Option Addr) (c3 : Nat), i ≤ l.length ∧ u = .int .i64 i ∧ v = .slice q3 L.length c3 ∧ TallyAt wq t m L ∧ SlR (pairRp .i64) (One m) wq q3 c3 L ∧ L.length ≤ 2 * i ∧ Ch (fun k => w.heap.size ≤ k) w wq) (fun _ u _ => l.length - (intOf u).toNat)
  case atStart => exact ⟨0, [], xa, 0, by omega, rfl, rfl, hT2, hx1, by simp, hC2⟩
  case round =>
    obtain ⟨i, L, q3, c3, hi, rfl, rfl, hT, hX, hLl, hC⟩ := hrel
    have hup : ∀ k, One m k → w.heap.size ≤ k := fun k z => by have : k = m := z; omega
    by_cases hil : i < l.length
    · obtain ⟨bq, off, rfl, _, d0, d1, d2, ik, ia, ib⟩ := ((hsl0.more (F' := fun k => w.heap.size ≤ k) (fun k e => .inr e)).ch hC (fun k e => e)).tact_at i hil
      obtain ⟨A, hA⟩ : ∃ A, A = l[i] := ⟨_, rfl⟩
      rw [← hA] at d0 d1 d2 ik ia ib
      clear hA
      obtain ⟨kk, aa, bb⟩ := A
      dsimp only at d0 d1 d2 ik ia ib
      have hal : Ch No wr (wr.alloc (.cells #[.int .i64 kk, .int .i64 aa, .int .i64 bb] 48)) := (Ch.refl _ _).alloc _
      have kA : (wr.alloc (.cells #[.int .i64 kk, .int .i64 aa, .int .i64 bb] 48)).heap[wr.heap.size]? = some (.cells #[.int .i64 kk, .int .i64 aa, .int .i64 bb] 48 (0, 0)) := World.alloc_heap_new _ _
      obtain ⟨wa, hwa⟩ : ∃ z, z = wr.alloc (.cells #[.int .i64 kk, .int .i64 aa, .int .i64 bb] 48) := ⟨_, rfl⟩
      have hTa := hT.ch0 (hwa ▸ hal)
      have hca := hC.then0 (hwa ▸ hal)
      have hala : Ch No wr wa := hwa ▸ hal
      rw [← hwa] at kA
      have a0 : wa.cell? ⟨wr.heap.size, 0, none⟩ = some (.int .i64 kk) := cellOf kA 0 rfl
      have a1 : wa.cell? ⟨wr.heap.size, 1, none⟩ = some (.int .i64 aa) := cellOf kA 1 rfl
      have a2 : wa.cell? ⟨wr.heap.size, 2, none⟩ = some (.int .i64 bb) := cellOf kA 2 rfl
      have hltr := hT.lt
      have hmR : ¬ One m wr.heap.size := fun z => by have : wr.heap.size = m := z; omega
      have HWA := Lib.hid hwa
      have hXa := hX.ch0 hala
      have hFa : ∀ k, One m k → k < wa.heap.size := fun k z => by have : k = m := z; have := hTa.lt; omega
      have hFin := fun (W : World) (M : Rows) (hW : TallyAt W t m M) (q4 : Option Addr) (c4 : Nat) (hq : SlR (pairRp .i64) (One m) W q4 c4 M) (hM : M.length ≤ 1000) => tally_All No W t m M hW (by omega) (fun _ z => z.elim)
      by_cases k0 : kk = 0
      · have qq0 : (kk == 0) = true := by simp [k0]
        have hgo := tally_Add wa t m L aa bb hTa ia ib
        have hro := fun (W : World) (hW : Ch (One m) wa W) => ref15_Add (One m) W q3 c3 L aa bb (hXa.ch hW (fun _ z => z)) hT.rise ia ib (by omega) (fun k z => by have := hFa k z; have := hW.size; omega)
        have hRl := tAdd_length L aa bb
        obtain ⟨R, hR⟩ : ∃ z, z = (tAdd L aa bb).1 := ⟨_, rfl⟩
        obtain ⟨er, her⟩ : ∃ z, z = (tAdd L aa bb).2 := ⟨_, rfl⟩
        rw [← hR, ← her] at hgo
        simp only [← hR, ← her] at hro
        rw [← hR] at hRl
        have e9 : (er != er) = false := by simp
        clear hR her k0 hwa hal
        go_wp2_with fail
        rw [← HWA.out]
        with_reducible refine hgo.mono ?_
        rintro e w4 ⟨rfl, hT4, hc4⟩
        have kA4 := hc4.heap kA hmR
        have a0 := cellOf kA4 0 rfl
        have a1 := cellOf kA4 1 rfl
        have a2 := cellOf kA4 2 rfl
        dsimp only
        go_wp2_with fail
        with_reducible refine (hro w4 hc4).mono ?_
        rintro e w5 ⟨q5, c5, rfl, hX5, hc5⟩
        have hT5 := hT4.ch0 hc5
        have hC5 := (hca.andThen hc4 (fun k z => .inl (hup k z))).then0 hc5
        have kA5 := hc5.heap kA4 (fun q => q)
        have a0 := cellOf kA5 0 rfl
        dsimp only
        go_wp2_with fail
        with_reducible refine (hFin w5 _ hT5 q5 c5 hX5 (by omega)).mono ?_
        rintro e w6 ⟨q6, c6, rfl, hs6, hc6⟩
        have hsm := ref06_Same No (One m) w6 q6 q5 c6 c5 _ _ hs6 (hX5.ch0 hc6) (by omega) (by omega)
        rw [decide_eq_true rfl] at hsm
        dsimp only
        go_wp2_with fail
        with_reducible refine hsm.mono ?_
        rintro e w7 ⟨rfl, hc7⟩
        dsimp only
        go_wp2_with fail
        go_roundw
        case rel => exact ⟨i + 1, R, q5, c5, by omega, by go_num, rfl, (hT5.ch0 hc6).ch0 hc7, (hX5.ch0 hc6).ch0 hc7, by omega, ((hC5.then0 hc6).then0 hc7)⟩
        case measure => exact meas_lt (by omega)
      by_cases k1 : kk = 1
      · have qq0 : (kk == 0) = false := by simp [k0]
        have qq1 : (kk == 1) = true := by simp [k1]
        have hgo := tally_Swap wa t m L aa bb hTa ia ib
        have hro := fun (W : World) (hW : Ch (One m) wa W) => ref15_Swap (One m) W q3 c3 L aa bb (hXa.ch hW (fun _ z => z)) hT.rise ia ib (by omega) (fun k z => by have := hFa k z; have := hW.size; omega)
        have hRl := tSwap_length L aa bb
        obtain ⟨R, hR⟩ : ∃ z, z = (tSwap L aa bb).1 := ⟨_, rfl⟩
        obtain ⟨er, her⟩ : ∃ z, z = (tSwap L aa bb).2 := ⟨_, rfl⟩
        rw [← hR, ← her] at hgo
        simp only [← hR, ← her] at hro
        rw [← hR] at hRl
        have e9 : (er != er) = false := by simp
        clear hR her k0 k1 hwa hal
        go_wp2_with fail
        rw [← HWA.out]
        with_reducible refine hgo.mono ?_
        rintro e w4 ⟨rfl, hT4, hc4⟩
        have kA4 := hc4.heap kA hmR
        have a0 := cellOf kA4 0 rfl
        have a1 := cellOf kA4 1 rfl
        have a2 := cellOf kA4 2 rfl
        dsimp only
        go_wp2_with fail
        with_reducible refine (hro w4 hc4).mono ?_
        rintro e w5 ⟨q5, c5, rfl, hX5, hc5⟩
        have hT5 := hT4.ch0 hc5
        have hC5 := (hca.andThen hc4 (fun k z => .inl (hup k z))).then0 hc5
        have kA5 := hc5.heap kA4 (fun q => q)
        have a0 := cellOf kA5 0 rfl
        dsimp only
        go_wp2_with fail
        with_reducible refine (hFin w5 _ hT5 q5 c5 hX5 (by omega)).mono ?_
        rintro e w6 ⟨q6, c6, rfl, hs6, hc6⟩
        have hsm := ref06_Same No (One m) w6 q6 q5 c6 c5 _ _ hs6 (hX5.ch0 hc6) (by omega) (by omega)
        rw [decide_eq_true rfl] at hsm
        dsimp only
        go_wp2_with fail
        with_reducible refine hsm.mono ?_
        rintro e w7 ⟨rfl, hc7⟩
        dsimp only
        go_wp2_with fail
        go_roundw
        case rel => exact ⟨i + 1, R, q5, c5, by omega, by go_num, rfl, (hT5.ch0 hc6).ch0 hc7, (hX5.ch0 hc6).ch0 hc7, by omega, ((hC5.then0 hc6).then0 hc7)⟩
        case measure => exact meas_lt (by omega)
      by_cases k2 : kk = 2
      · have qq0 : (kk == 0) = false := by simp [k0]
        have qq1 : (kk == 1) = false := by simp [k1]
        have qq2 : (kk == 2) = true := by simp [k2]
        have hgo := tally_Forget wa t m L aa hTa ia
        have hro := fun (W : World) (hW : Ch (One m) wa W) => ref15_Set (One m) W q3 c3 L aa 0 (hXa.ch hW (fun _ z => z)) ia (show _ ∧ _ from by omega) (by omega) (fun k z => by have := hFa k z; have := hW.size; omega)
        have hRl := rset_length L aa 0
        obtain ⟨R, hR⟩ : ∃ z, z = rset L aa 0 := ⟨_, rfl⟩
        rw [← hR] at hgo hRl
        simp only [← hR] at hro
        clear hR k0 k1 k2 hwa hal
        go_wp2_with fail
        rw [← HWA.out]
        with_reducible refine hgo.mono ?_
        rintro e w4 ⟨rfl, hT4, hc4⟩
        have kA4 := hc4.heap kA hmR
        have a0 := cellOf kA4 0 rfl
        have a1 := cellOf kA4 1 rfl
        dsimp only
        go_wp2_with fail
        with_reducible refine (hro w4 hc4).mono ?_
        rintro e w5 ⟨q5, c5, rfl, hX5, hc5⟩
        have hT5 := hT4.ch0 hc5
        have hC5 := (hca.andThen hc4 (fun k z => .inl (hup k z))).then0 hc5
        dsimp only
        go_wp2_with fail
        with_reducible refine (hFin w5 _ hT5 q5 c5 hX5 (by omega)).mono ?_
        rintro e w6 ⟨q6, c6, rfl, hs6, hc6⟩
        have hsm := ref06_Same No (One m) w6 q6 q5 c6 c5 _ _ hs6 (hX5.ch0 hc6) (by omega) (by omega)
        rw [decide_eq_true rfl] at hsm
        dsimp only
        go_wp2_with fail
        with_reducible refine hsm.mono ?_
        rintro e w7 ⟨rfl, hc7⟩
        dsimp only
        go_wp2_with fail
        go_roundw
        case rel => exact ⟨i + 1, R, q5, c5, by omega, by go_num, rfl, (hT5.ch0 hc6).ch0 hc7, (hX5.ch0 hc6).ch0 hc7, by omega, ((hC5.then0 hc6).then0 hc7)⟩
        case measure => exact meas_lt (by omega)
      have qq0 : (kk == 0) = false := by simp [k0]
      have qq1 : (kk == 1) = false := by simp [k1]
      have qq2 : (kk == 2) = false := by simp [k2]
      have hRl : L.length ≤ 2 * i := hLl
      obtain ⟨R, hR⟩ : ∃ z, z = L := ⟨_, rfl⟩
      obtain ⟨w5, h5⟩ : ∃ z, z = wa := ⟨_, rfl⟩
      obtain ⟨q5, hq5⟩ : ∃ z, z = q3 := ⟨_, rfl⟩
      obtain ⟨c5, hc5⟩ : ∃ z, z = c3 := ⟨_, rfl⟩
      subst hR h5 hq5 hc5
      have hT5 := hTa
      have hX5 := hXa
      have hC5 := hca
      clear k0 k1 k2 hwa hal
      go_wp2_with fail
      rw [← HWA.out]
      with_reducible refine (hFin w5 _ hT5 q5 c5 hX5 (by omega)).mono ?_
      rintro e w6 ⟨q6, c6, rfl, hs6, hc6⟩
      have hsm := ref06_Same No (One m) w6 q6 q5 c6 c5 _ _ hs6 (hX5.ch0 hc6) (by omega) (by omega)
      rw [decide_eq_true rfl] at hsm
      dsimp only
      go_wp2_with fail
      with_reducible refine hsm.mono ?_
      rintro e w7 ⟨rfl, hc7⟩
      dsimp only
      go_wp2_with fail
      go_roundw
      case rel => exact ⟨i + 1, R, q5, c5, by omega, by go_num, rfl, (hT5.ch0 hc6).ch0 hc7, (hX5.ch0 hc6).ch0 hc7, by omega, ((hC5.then0 hc6).then0 hc7)⟩
      case measure => exact meas_lt (by omega)
    · have hof := fun (W : World) (h : TallyAt W t m L) => tally_Of W t m L rg h
      have hrof := fun (W : World) (h : SlR (pairRp .i64) (One m) W q3 c3 L) => ref15_Of (One m) W q3 c3 L rg h (by omega)
      obtain ⟨z, hz⟩ : ∃ z, z = cnt L rg := ⟨_, rfl⟩
      simp only [← hz] at hof hrof
      clear hz
      have hie : i = l.length := by omega
      have HIE := Lib.hid hie
      have b1 : decide ((i : Int) < (l.length : Int)) = false := decide_eq_false (by omega)
      clear hie
      go_wp2_with fail
      with_reducible refine (fixed15 wr).mono ?_
      rintro e w4 ⟨rfl, hc4⟩
      have hT4 := hT.ch0 hc4
      have hX4 := hX.ch0 hc4
      dsimp only
      go_wp2_with fail
      with_reducible refine (hof w4 hT4).mono ?_
      rintro e w5 ⟨rfl, rfl⟩
      dsimp only
      go_wp2_with fail
      with_reducible refine (hrof w4 hX4).mono ?_
      rintro e w6 ⟨rfl, rfl⟩
      dsimp only
      go_wp2_with fail
      go_ret
      exact ⟨rfl, ((hC.then0 hc4)).out⟩
end Go.Proofs.Ytinjbonodlkafaa

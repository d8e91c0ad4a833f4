/- Layer 16's laws: GlobalsPlay, GlobalsApart: their walks. -/
import Derived.Test.YtlmaflhfedbmdaaRef16
set_option linter.unusedVariables false
set_option linter.unusedSimpArgs false
namespace Go.Proofs.Ytlmaflhfedbmdaa
open Go Go.RowKit

theorem fixed16 (w : World) : Calls Try.prog 10 #[] w fun e w' => e = .returned (.bool true) ∧ Ch No w w' := by
  go_enter Try.func10, Try.ntmps10
  go_wp2_with fail
  refine (globals_New_ok 2 w (by decide) (by decide)).mono ?_
  rintro e w1 ⟨p, b, rfl, hs, hc, hp, hb⟩
  go_wp2_with fail
  refine (show Calls _ _ _ _ (fun e w' => e = .returned (.tuple #[.int .u64 0, .int .i64 0]) ∧ SlotsAt w' p b [0, 9] ∧ Ch (One b) w1 w') from globals_Set w1 p b _ 1 9 hs (by decide) (by simp [InK])).mono ?_
  rintro e w2 ⟨rfl, hs2, hc2⟩
  go_wp2_with fail
  refine (show Calls _ _ _ _ (fun e w' => e = .returned (.tuple #[.int .u64 9, .int .i64 0]) ∧ SlotsAt w' p b [0, 5] ∧ Ch (One b) w2 w') from globals_Set w2 p b _ 1 5 hs2 (by decide) (by simp [InK])).mono ?_
  rintro e w3 ⟨rfl, hs3, hc3⟩
  go_wp2_with fail
  refine (show Calls _ _ _ _ (fun e w' => e = .returned (.tuple #[.int .u64 0, .int .i64 8]) ∧ w3 = w') from globals_Get w3 p b _ 2 hs3 (by decide)).mono ?_
  rintro e w4 ⟨rfl, rfl⟩
  go_wp2_with fail
  go_ret
  exact ⟨rfl, (hc.andThen (hc2.trans hc3) (fun i hi => .inr (by cases hi; exact hb)))⟩
set_option maxRecDepth 100000 in
set_option maxHeartbeats 8000000 in
theorem play16 (w : World) (n i : Int) (a : Option Addr) (c : Nat) (l : List (Int × Int)) (h : SlR (pairRp .u64) No w a c l) (hi : U64 i) (hn : I64 n) :
    Calls Try.prog 3 #[.int .i64 n, .slice a l.length c, .int .u64 i] w fun e w' => e = .returned (.bool true) ∧ Ch No w w' := by
  have hmax : l.length ≤ 9223372036854775807 := by have h1 := h.le; have h2 := h.max; unfold maxLen at h2; omega
  by_cases h100 : l.length ≤ 100
  · by_cases h0 : 0 ≤ n ∧ n ≤ 64
    · obtain ⟨h0, h64⟩ := h0
      go_enter Try.func3, Try.ntmps3
      go_wp2_with fail
      refine (globals_New_ok n w h0 h64).mono ?_
      rintro e w1 ⟨p, b, rfl, hs, hc, hp, hb⟩
      go_wp2_with fail
      have hF1 : ∀ k, Two p b k → k < w1.heap.size := by have := heap_lt hs.head; have := heap_lt hs.body; rintro k (rfl | rfl) <;> omega
      refine (ref16_New_ok (Two p b) n w1 h0 h64 hF1).mono ?_
      rintro e w2 ⟨v, rfl, ho, hc2⟩
      go_wp2_with fail
      obtain ⟨a2, c2, rfl, hr⟩ := ho.sl hF1
      rw [List.length_replicate]
      go_loopw [9, 53] (fun v i wr => ∃ (k : Nat) (xs : List Int) (a' : Option Addr) (c' : Nat), k ≤ l.length ∧ i = .int .i64 k ∧ xs.length = n.toNat ∧ v = .slice a' xs.length c' ∧ SlotsAt wr p b xs ∧ SlR (intRp .u64) (Two p b) wr a' c' xs ∧ Ch No w wr) (fun _ i _ => l.length - (intOf i).toNat)
      case atStart => exact ⟨0, _, a2, c2, by omega, rfl, by simp, by simp, hs.ch0 hc2, hr, hc.trans hc2⟩
      case round =>
        obtain ⟨k, xs, a', c', hk, rfl, hxl, rfl, hs', hr', hc'⟩ := hrel
        have HX := Lib.hid hxl; clear hxl
        clear hs ho hr
        by_cases hlt : k < l.length
        · obtain ⟨bl, off, rfl, _, _, p1, p2, q1, q2⟩ := (h.ch0 hc').pair_at k hlt
          obtain ⟨y, hy⟩ : ∃ y, y = l[k] := ⟨_, rfl⟩
          rw [← hy] at p1 p2 q1 q2
          have hy' := hy; clear hy
          have hblt := heap_lt hs'.body
          have hplt := heap_lt hs'.head
          have HK := Lib.hid hy'; clear hy'
          go_wp2_with fail
          have q10 : 0 ≤ y.1 := U64.bd q1 |>.1
          with_reducible refine (globals_Set _ p b xs y.1 y.2 (hs'.ch0 ((Ch.refl _ _).alloc _)) q10 q2).mono ?_
          rintro e w3 ⟨rfl, hs3, hc3⟩
          have d1 : w3.cell? ⟨wr.heap.size, 0, none⟩ = some (.int .u64 y.1) := hc3.cell (by simp) (by simp [One]; omega)
          have d2 : w3.cell? ⟨wr.heap.size, 1, none⟩ = some (.int .u64 y.2) := hc3.cell (by simp) (by simp [One]; omega)
          have hc30 : Ch (Two p b) wr w3 := ((Ch.refl _ _).alloc _).trans (hc3.mono (fun k h => .inr h))
          have hr3 := hr'.chF hc30
          have hz3 := hc30.size
          go_wp2_with fail
          have hF3 : ∀ k, Two p b k → k < w3.heap.size := by rintro k (rfl | rfl) <;> omega
          have hx100 : xs.length ≤ 100000 := by have := HX.out; omega
          with_reducible refine (ref16_Set (Two p b) w3 a' c' xs y.1 y.2 hr3 q10 hx100 q2 hF3).mono ?_
          rintro e w4 ⟨a4, c4, rfl, hr4, hc4⟩
          obtain ⟨xs2, hx2⟩ : ∃ z, z = xs.set y.1.toNat y.2 := ⟨_, rfl⟩
          rw [← hx2] at hs3 hr4 ⊢
          have hl2 : xs2.length = n.toNat := by rw [hx2, List.length_set]; exact HX.out
          have HL2 := Lib.hid hl2; clear hl2
          clear hx2
          have hs4 := hs3.ch0 hc4
          go_wp2_with fail
          with_reducible refine (globals_All w4 p b _ hs4).mono ?_
          rintro e w5 ⟨v5, rfl, ho5, hc5⟩
          have hr5 := hr4.ch0 hc5
          have hs5 := hs4.ch0 hc5
          obtain ⟨a5, c5, rfl, hs5'⟩ := ho5.sl (fun _ q => q.elim)
          go_wp2_with fail
          have hy100 : xs2.length ≤ 100000 := by have := HL2.out; omega
          with_reducible refine (ref01_Same _ _ w5 a5 a4 c5 c4 _ _ hs5' hr5 hy100 hy100).mono ?_
          rintro e w6 ⟨rfl, hc6⟩
          have hr6 := hr5.ch0 hc6
          have hs6 := hs5.ch0 hc6
          have ho6 := ho5.ch0 hc6
          rw [decide_eq_true rfl]
          go_wp2_with fail
          with_reducible refine (globals_Len w6 p b _ hs6).mono ?_
          rintro e w7 ⟨rfl, rfl⟩
          have hln : ((xs2.length : Int) != n) = false := by have := HL2.out; simp; omega
          go_wp2_with fail
          go_loopw [101] (fun i wq => ∃ (j : Nat) (zs : List Int), j ≤ xs2.length ∧ i = .int .i64 j ∧ zs.length = xs2.length ∧ OwnR (intRp .u64) w4.heap.size 23 No wq (.slice a5 xs2.length c5) zs ∧ Ch No w4 wq) (fun i _ => xs2.length - (intOf i).toNat)
          case atStart => exact ⟨0, xs2, by omega, rfl, rfl, ho6, hc5.trans hc6⟩
          case round =>
            obtain ⟨j, zs, hj, rfl, hzl, hoz, hcz⟩ := hrel
            by_cases hjt : j < xs2.length
            · obtain ⟨g, cap, hv, hg1, hg2, _, hcell, hfr⟩ := hoz.int_form (by omega)
              simp only [Value.slice.injEq] at hv
              obtain ⟨rfl, _, rfl⟩ := hv
              have hc0 := hcell j (by omega)
              have hf0 := hfr j
              obtain ⟨z, hz⟩ : ∃ z, z = zs[j]'(by omega) := ⟨_, rfl⟩
              rw [← hz] at hc0
              have HZ := Lib.hid hzl
              clear hzl hz hcell hfr
              go_wp2_with fail
              go_roundw
              case rel => exact ⟨j + 1, zs.set j _, by omega, by go_num, by rw [List.length_set]; exact HZ.out, hoz.int_set HZ.out.symm j _ (InK.wrap _ _), hcz.setNew hg1 _⟩
              case measure => exact meas_lt (by omega)
            · clear hzl
              obtain rfl : j = xs2.length := by omega
              clear hoz
              go_wp2_with fail
              go_roundw
              case rel => exact ⟨k + 1, xs2, a4, c4, by omega, by go_num, HL2.out, rfl, hs4.ch0 hcz, hr4.ch0 hcz, ((hc'.andThen hc30 (by rintro q (rfl | rfl) <;> exact .inr ‹_›)).then0 hc4).then0 hcz⟩
              case measure => exact meas_lt (by omega)
        · obtain rfl : k = l.length := by omega
          go_wp2_with fail
          with_reducible refine (globals_Get _ p b xs i hs' (U64.bd hi |>.1)).mono ?_
          rintro e w3 ⟨rfl, rfl⟩
          have hx100 : xs.length ≤ 100000 := by have := HX.out; omega
          go_wp2_with fail
          with_reducible refine (ref16_Get _ _ a' c' xs i hr' (U64.bd hi |>.1) hx100).mono ?_
          rintro e w4 ⟨rfl, rfl⟩
          go_wp2_with fail
          with_reducible refine (fixed16 _).mono ?_
          rintro e w5 ⟨rfl, hc5⟩
          go_wp2_with fail
          go_ret
          exact ⟨rfl, hc'.trans hc5⟩
    · go_enter Try.func3, Try.ntmps3
      go_wp2_with fail
      refine (globals_New_no n w (by omega)).mono ?_
      rintro e w1 ⟨rfl, rfl⟩
      go_wp2_with fail
      refine (ref16_New_no No n w (by omega)).mono ?_
      rintro e w2 ⟨v, rfl, ho, hc2⟩
      go_wp2_with fail
      refine (fixed16 _).mono ?_
      rintro e w5 ⟨rfl, hc5⟩
      go_wp2_with fail
      go_ret
      exact ⟨rfl, hc2.trans hc5⟩
  · go_enter Try.func3, Try.ntmps3
    go_wp2_with fail
    refine (fixed16 _).mono ?_
    rintro e w5 ⟨rfl, hc5⟩
    go_wp2_with fail
    go_ret
    exact ⟨rfl, hc5⟩

theorem u64_0 : U64 0 := by simp [InK]

/-- What GlobalsApart expects of slot i. -/
def want16 (y0 y1 y2 y3 : Int) (i : Int) : Int := if i = y2 then y3 else if i = y0 then y1 else 0

theorem want16_at (m : Nat) (y0 y1 y2 y3 : Int) (h0 : 0 ≤ y0) (h2 : 0 ≤ y2) (i : Nat) (hi : i < (((List.replicate m (0 : Int)).set y0.toNat y1).set y2.toNat y3).length) :
    (((List.replicate m (0 : Int)).set y0.toNat y1).set y2.toNat y3)[i] = want16 y0 y1 y2 y3 i := by
  unfold want16
  rw [List.getElem_set]
  by_cases e2 : (i : Int) = y2
  · rw [if_pos (by omega), if_pos e2]
  · rw [if_neg (by omega), if_neg e2, List.getElem_set]
    by_cases e0 : (i : Int) = y0
    · rw [if_pos (by omega), if_pos e0]
    · rw [if_neg (by omega), if_neg e0, List.getElem_replicate]

theorem errAt_eq (l : List Int) (i : Int) : (errAt l i == 0) = decide (i < (l.length : Int)) := by
  unfold errAt
  by_cases h : i < l.length <;> simp [h]

set_option maxRecDepth 100000 in
set_option maxHeartbeats 8000000 in
theorem apart16 (w : World) (n : Int) (y0 y1 y2 y3 : Int) (hn0 : 0 ≤ n) (hn : n ≤ 255) (h0 : U64 y0) (h1 : U64 y1) (h2 : U64 y2) (h3 : U64 y3) :
    Calls Try.prog 4 #[.int .u8 n, .agg #[.int .u64 y0, .int .u64 y1, .int .u64 y2, .int .u64 y3]] w fun e w' => e = .returned (.bool true) ∧ Ch No w w' := by
  obtain ⟨g0, g0'⟩ := U64.bd h0
  obtain ⟨g2, g2'⟩ := U64.bd h2
  go_enter Try.func4, Try.ntmps4
  go_wp2_with fail
  obtain ⟨m, hm⟩ : ∃ m : Nat, (m : Int) = 1 + n % 64 := ⟨(1 + n % 64).toNat, by omega⟩
  have hm64 : m ≤ 64 := by omega
  have hm1 : 1 ≤ m := by omega
  rw [← hm]
  have HM := Lib.hid hm; clear hm
  refine (globals_New_ok m _ (by omega) (by omega)).mono ?_
  rintro e w1 ⟨p, b, rfl, hs, hc, hp, hb⟩
  have d0 : w1.cell? ⟨w.heap.size, 0, none⟩ = some (.int .u64 y0) := hc.cell (by simp) (fun q => q)
  have d1 : w1.cell? ⟨w.heap.size, 1, none⟩ = some (.int .u64 y1) := hc.cell (by simp) (fun q => q)
  have d2 : w1.cell? ⟨w.heap.size, 2, none⟩ = some (.int .u64 y2) := hc.cell (by simp) (fun q => q)
  have d3 : w1.cell? ⟨w.heap.size, 3, none⟩ = some (.int .u64 y3) := hc.cell (by simp) (fun q => q)
  simp only [World.size_alloc] at hp hb
  have hcw : Ch No w w1 := ((Ch.refl _ _).alloc _).trans hc
  clear hc
  rw [Int.toNat_natCast] at hs
  go_wp2_with fail
  have hl0 : (List.replicate m (0 : Int)).length = m := List.length_replicate
  obtain ⟨xs0, hx0⟩ : ∃ z, z = List.replicate m (0 : Int) := ⟨_, rfl⟩
  rw [← hx0] at hs hl0
  with_reducible refine (globals_Set w1 p b xs0 y0 y1 hs g0 h1).mono ?_
  rintro e w2 ⟨rfl, hs2, hc2⟩
  obtain ⟨xs1, hx1⟩ : ∃ z, z = xs0.set y0.toNat y1 := ⟨_, rfl⟩
  rw [← hx1] at hs2
  have hl1 : xs1.length = m := by rw [hx1, List.length_set]; exact hl0
  have bne : ¬ One b w.heap.size := by unfold One; omega
  replace d0 := hc2.cell d0 bne
  replace d1 := hc2.cell d1 bne
  replace d2 := hc2.cell d2 bne
  replace d3 := hc2.cell d3 bne
  have E0 : (errAt xs0 y0 == 0) = decide (y0 < (m : Int)) := by rw [errAt_eq, hl0]
  have H0 := Lib.hid hx0; have H1 := Lib.hid hx1; have L0 := Lib.hid hl0; have L1 := Lib.hid hl1
  clear hx0 hx1 hl0 hl1
  go_wp2_with fail
  with_reducible refine (globals_Set w2 p b xs1 y2 y3 hs2 g2 h3).mono ?_
  rintro e w3 ⟨rfl, hs3, hc3⟩
  obtain ⟨xs2, hx2⟩ : ∃ z, z = xs1.set y2.toNat y3 := ⟨_, rfl⟩
  rw [← hx2] at hs3
  have hl2 : xs2.length = m := by rw [hx2, List.length_set]; exact L1.out
  replace d0 := hc3.cell d0 bne
  replace d1 := hc3.cell d1 bne
  replace d2 := hc3.cell d2 bne
  replace d3 := hc3.cell d3 bne
  have E1 : (errAt xs1 y2 == 0) = decide (y2 < (m : Int)) := by rw [errAt_eq, L1.out]
  have H2 := Lib.hid hx2; have L2 := Lib.hid hl2
  clear hx2 hl2
  go_wp2_with fail
  with_reducible refine (globals_Len w3 p b _ hs3).mono ?_
  rintro e w4 ⟨rfl, rfl⟩
  rw [L2.out]
  go_wp2_with fail
  with_reducible refine (globals_All w3 p b xs2 hs3).mono ?_
  rintro e w4 ⟨v4, rfl, ho4, hc4⟩
  obtain ⟨a4, c4, rfl, hr4⟩ := ho4.sl (fun _ q => q.elim)
  rw [L2.out]
  go_wp2_with fail
  go_loopw [71] (fun i wr => ∃ j : Nat, j ≤ m ∧ i = .int .i64 j ∧ Ch No w4 wr) (fun i _ => m - (intOf i).toNat)
  case atStart => exact ⟨0, by omega, rfl, Ch.refl _ _⟩
  case round =>
    obtain ⟨j, hj, rfl, hcj⟩ := hrel
    by_cases hlt : j < m
    · obtain ⟨bl, off, rfl, _, _, c1, _⟩ := (hr4.ch0 hcj).int_at j (by rw [L2.out]; exact hlt)
      have hx : xs2[j]'(by rw [L2.out]; exact hlt) = want16 y0 y1 y2 y3 j := by
        have h := want16_at m y0 y1 y2 y3 g0 g2 j (by simpa using hlt)
        rw [← h]
        congr 1
        rw [H2.out, H1.out, H0.out]
      rw [hx] at c1
      clear hx
      have d0 := hcj.cell (hc4.cell d0 (fun q => q)) (fun q => q)
      have d1 := hcj.cell (hc4.cell d1 (fun q => q)) (fun q => q)
      have d2 := hcj.cell (hc4.cell d2 (fun q => q)) (fun q => q)
      have d3 := hcj.cell (hc4.cell d3 (fun q => q)) (fun q => q)
      unfold want16 at c1
      by_cases e2 : (j : Int) = y2
      · rw [if_pos e2] at c1
        have b2 : ((j : Int) == y2) = true := by simpa using e2
        clear e2
        by_cases e0 : (j : Int) = y0
        · have b0 : ((j : Int) == y0) = true := by simpa using e0
          clear e0
          go_wp2_with fail
          go_roundw
          case rel => exact ⟨j + 1, by omega, by go_num, hcj⟩
          case measure => exact meas_lt (by omega)
        · have b0 : ((j : Int) == y0) = false := by simpa using e0
          clear e0
          go_wp2_with fail
          go_roundw
          case rel => exact ⟨j + 1, by omega, by go_num, hcj⟩
          case measure => exact meas_lt (by omega)
      · rw [if_neg e2] at c1
        have b2 : ((j : Int) == y2) = false := by simpa using e2
        clear e2
        by_cases e0 : (j : Int) = y0
        · rw [if_pos e0] at c1
          have b0 : ((j : Int) == y0) = true := by simpa using e0
          clear e0
          go_wp2_with fail
          go_roundw
          case rel => exact ⟨j + 1, by omega, by go_num, hcj⟩
          case measure => exact meas_lt (by omega)
        · rw [if_neg e0] at c1
          have b0 : ((j : Int) == y0) = false := by simpa using e0
          clear e0
          go_wp2_with fail
          go_roundw
          case rel => exact ⟨j + 1, by omega, by go_num, hcj⟩
          case measure => exact meas_lt (by omega)
    · obtain rfl : j = m := by omega
      have d2 := hcj.cell (hc4.cell d2 (fun q => q)) (fun q => q)
      have d3 := hcj.cell (hc4.cell d3 (fun q => q)) (fun q => q)
      clear hlt hj
      go_wp2_with fail
      with_reducible refine (globals_Set wr p b xs2 y2 0 ((hs3.ch0 hc4).ch0 hcj) g2 u64_0).mono ?_
      rintro e w5 ⟨rfl, hs5, hc5⟩
      have d3 := hc5.cell d3 bne
      have E2 : errAt xs2 y2 = errAt xs1 y2 := by unfold errAt; rw [L1.out, L2.out]
      rw [E2]
      clear E2
      go_wp2_with fail
      with_reducible refine (fixed16 _).mono ?_
      rintro e w6 ⟨rfl, hc6⟩
      have d3 := hc6.cell d3 (fun q => q)
      have hfin : Ch No w w6 := ((hcw.andThen ((hc2.trans hc3).andThen (hc4.trans hcj) (fun _ q => q.elim)) (by rintro q rfl; exact .inr (by omega))).andThen hc5 (by rintro q rfl; exact .inr (by omega))).trans hc6
      by_cases hy : y2 < (j : Int)
      · have e1 : errAt xs1 y2 = 0 := errAt_ok (by rw [L1.out]; exact hy)
        have e2 : slotAt xs2 y2 = y3 := by
          unfold slotAt
          rw [List.getD_eq_getElem?_getD, H2.out, List.getElem?_set_self (by rw [L1.out]; omega)]
          rfl
        rw [e1, e2]
        clear e1 e2 E1
        go_wp2_with fail
        go_ret
        exact ⟨rfl, hfin⟩
      · have e1 : errAt xs1 y2 = 8 := errAt_no (by rw [L1.out]; omega)
        rw [e1]
        clear e1 E1
        go_wp2_with fail
        go_ret
        exact ⟨rfl, hfin⟩
end Go.Proofs.Ytlmaflhfedbmdaa

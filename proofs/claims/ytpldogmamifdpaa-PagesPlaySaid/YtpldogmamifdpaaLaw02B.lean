/- The law BitsBack: the walk. -/
import Derived.Test.YtpldogmamifdpaaLaw02
import Derived.Test.YtpldogmamifdpaaLaw02F
set_option linter.unusedVariables false
set_option linter.unusedSimpArgs false
namespace Go.Proofs.Ytpldogmamifdpaa
open Go Go.RowKit

theorem popB_all (f : Nat → Bool) : ∀ m, (∀ i, i < m → f i = true) → popB f m = m
  | 0, _ => rfl
  | m + 1, h => by simp only [popB]; rw [popB_all f m (fun i hi => h i (by omega)), h m (by omega)]; rfl
theorem popB_zero (f : Nat → Bool) : ∀ m, (∀ i, i < m → f i = false) → popB f m = 0
  | 0, _ => rfl
  | m + 1, h => by simp only [popB]; rw [popB_zero f m (fun i hi => h i (by omega)), h m (by omega)]; rfl
theorem cnt_mark (x : List Bool) (A B n : Nat) (h : FreeAt x A B) (hn : n = x.length) : cntTo (markB x A true B) n = cntTo x n + B := by
  have hg := fun j => markB_get x A true B j h.1
  obtain ⟨C, rfl⟩ : ∃ C, n = A + B + C := ⟨n - (A + B), by have := h.1; omega⟩
  unfold cntTo
  rw [popB_add, popB_add, popB_add _ (A + B), popB_add _ A]
  have e1 : popB (fun i => (markB x A true B).getD i false) A = popB (fun i => x.getD i false) A := popB_congr (fun i hi => by rw [hg, if_neg (by omega)])
  have e2 : popB (fun i => (markB x A true B).getD (A + i) false) B = B := popB_all _ _ (fun i hi => by rw [hg, if_pos (by omega)])
  have e3 : popB (fun i => x.getD (A + i) false) B = 0 := popB_zero _ _ (fun i hi => h.2 i hi)
  have e4 : popB (fun i => (markB x A true B).getD (A + B + i) false) C = popB (fun i => x.getD (A + B + i) false) C := popB_congr (fun i hi => by rw [hg, if_neg (by omega)])
  rw [e1, e2, e3, e4]
  omega
theorem back_get (x : List Bool) (A B j : Nat) (h : FreeAt x A B) : (markB (markB x A true B) A false B).getD j false = x.getD j false := by
  rw [markB_get _ A false B j (by rw [markB_length]; exact h.1), markB_get x A true B j h.1]
  by_cases hj : A ≤ j ∧ j < A + B
  · rw [if_pos hj]
    have := h.2 (j - A) (by omega)
    rw [show A + (j - A) = j by omega] at this
    exact this.symm
  · rw [if_neg hj, if_neg hj]
theorem whole_marked (x : List Bool) (A B : Nat) (h : A + B ≤ x.length) : wholeB (markB x A true B) A B true = true := by
  unfold wholeB
  rw [Bool.and_eq_true, decide_eq_true_iff, List.all_eq_true, markB_length]
  simp only [Int.toNat_natCast, List.mem_range]
  refine ⟨by unfold fitsB; omega, fun j hj => ?_⟩
  rw [markB_get x A true B _ h, if_pos (by omega)]
  rfl

set_option maxRecDepth 100000 in
set_option maxHeartbeats 4000000 in
theorem back02 (w : World) (n : Int) (a : Option Addr) (c : Nat) (l : List BAct) (ra rb : Int) (hra : I64 ra) (hrb : I64 rb) (h : SlR bactRp No w a c l) (hn : 0 ≤ n ∧ n ≤ 65535) (hl : l.length ≤ 9223372036854775807) :
    Calls Try.prog 5 #[.int .u16 n, .slice a l.length c, .agg #[.int .i64 ra, .int .i64 rb]] w fun e w' => e = .returned (.bool true) ∧ Ch No w w' := by
  by_cases hcut : 60 < l.length
  · have b3 : decide ((l.length : Int) > 60) = true := decide_eq_true (by omega)
    go_enter Try.func5, Try.ntmps5
    go_wp2_with fail
    with_reducible refine (fixed02 _).mono ?_
    rintro e w1 ⟨rfl, hc⟩
    dsimp only
    go_wp2_with fail
    go_ret
    exact ⟨rfl, ((Ch.refl _ _).alloc _).trans hc⟩
  · have b3 : decide ((l.length : Int) > 60) = false := decide_eq_false (by omega)
    have hl60 : l.length ≤ 60 := by omega
    clear hcut hl
    obtain ⟨M, hM⟩ : ∃ M, M = n % 300 := ⟨_, rfl⟩
    have hM0 : 0 ≤ M ∧ M < 300 := by omega
    have e1 : IntKind.i64.wrap n = n := IntWalk.i64_in _ (by omega)
    have e2 : n.tmod 300 = M := by rw [hM]; exact Int.tmod_eq_emod_of_nonneg hn.1
    have e3 : IntKind.i64.wrap M = M := IntWalk.i64_in _ (by omega)
    obtain ⟨N, hN⟩ : ∃ N : Nat, N = M.toNat := ⟨_, rfl⟩
    have hMN : M = N := by omega
    have hN3 : N < 300 := by omega
    clear hM
    subst hMN
    clear hN hM0
    go_enter Try.func5, Try.ntmps5
    go_wp2_with fail
    with_reducible refine (bits_New _ N (by omega)).mono ?_
    rintro e w1 ⟨p, g, rfl, h1, hp, hg, hc1⟩
    obtain ⟨x0, hx0⟩ : ∃ z, z = List.replicate N false := ⟨_, rfl⟩
    have hxl : x0.length = N := by rw [hx0, List.length_replicate]
    rw [← hx0] at h1
    clear hx0
    dsimp only
    go_wp2_with fail
    go_loopw [35] (fun i wr => ∃ (k : Nat) (x : List Bool), k ≤ l.length ∧ i = .int .i64 k ∧ x.length = N ∧ RowAt wr p g x ∧ Ch No (w.alloc (.cells #[.int .i64 ra, .int .i64 rb] 30)) wr) (fun i _ => l.length - (intOf i).toNat)
    case atStart => exact ⟨0, x0, by omega, rfl, hxl, h1, hc1⟩
    case round =>
      obtain ⟨k, x, hk, rfl, hx, hr, hc⟩ := hrel
      clear h1 hc1 hxl
      by_cases hlt : k < l.length
      · obtain ⟨b, off, rfl, _, d0, d1, d2, ia, ib⟩ := ((h.ch0 ((Ch.refl _ _).alloc _)).ch0 hc).bact_at k hlt
        obtain ⟨A, hA⟩ : ∃ A, A = l[k] := ⟨_, rfl⟩
        rw [← hA] at d0 d1 d2 ia ib
        clear hA h
        have hal : Ch No wr (wr.alloc (.cells #[.int .i64 A.a, .int .i64 A.b, .bool A.on] 32)) := (Ch.refl _ _).alloc _
        go_wp2_with fail
        with_reducible refine (bits_Mark_all _ p g x A.a A.b A.on (hr.ch0 hal) ia ib).mono ?_
        rintro e w2 ⟨rfl, hr2, hc2⟩
        have hml := markL_length x A.a A.b A.on
        dsimp only
        go_wp2_with fail
        go_roundw
        case rel => exact ⟨k + 1, _, by omega, by go_num, by rw [hml]; exact hx, hr2, (hc.trans hal).andThen hc2 (fun q hq => .inr (by have : q = g := hq; omega))⟩
        case measure => exact meas_lt (by omega)
      · obtain rfl : k = l.length := by omega
        clear h
        have e0 : wr.cell? ⟨w.heap.size, 0, none⟩ = some (.int .i64 ra) := hc.cell (by simp) (fun q => q)
        have e4 : wr.cell? ⟨w.heap.size, 1, none⟩ = some (.int .i64 rb) := hc.cell (by simp) (fun q => q)
        have hcw : Ch No w wr := ((Ch.refl _ _).alloc _).trans hc
        have hwh := bits_Whole wr p g x ra rb false hr hra hrb
        have hgX : ¬ One g w.heap.size := fun q => by have : w.heap.size = g := q; simp only [World.size_alloc] at hg; omega
        have hgw : w.heap.size ≤ g := by simp only [World.size_alloc] at hg; omega
        cases hv : wholeB x ra rb false with
        | false =>
          rw [hv] at hwh
          clear hv
          go_wp2_with fail
          with_reducible refine hwh.mono ?_
          rintro e w2 ⟨rfl, hc2⟩
          dsimp only
          go_wp2_with fail
          with_reducible refine (fixed02 _).mono ?_
          rintro e w3 ⟨rfl, hc3⟩
          dsimp only
          go_wp2_with fail
          go_ret
          exact ⟨rfl, (hcw.trans hc2).trans hc3⟩
        | true =>
          have hfit : fitsB x.length ra rb := by
            unfold wholeB at hv
            rw [Bool.and_eq_true, decide_eq_true_iff] at hv
            exact hv.1
          have hfit2 := hfit
          unfold fitsB at hfit2
          obtain ⟨A, rfl⟩ : ∃ A : Nat, ra = A := ⟨ra.toNat, by omega⟩
          obtain ⟨B, rfl⟩ : ∃ B : Nat, rb = B := ⟨rb.toNat, by omega⟩
          have hfr := (whole_free x A B).1 hv
          rw [hv] at hwh
          have hAB := hfr.1
          obtain ⟨T, hT⟩ : ∃ T, T = cntTo x N := ⟨_, rfl⟩
          have hTb : T ≤ N := by rw [hT]; exact popB_le _ _
          have hct := fun w' (q : RowAt w' p g x) => bits_Count w' p g x q
          have hct1 := fun w' (q : RowAt w' p g (markB x A true B)) => bits_Count w' p g _ q
          have hct2 := fun w' (q : RowAt w' p g (markB (markB x A true B) A false B)) => bits_Count w' p g _ q
          have z2 : cntTo (markB (markB x A true B) A false B) N = T := by rw [hT]; exact popB_congr (fun i _ => back_get x A B i hfr)
          simp only [markB_length, hx, cnt_mark x A B N hfr hx.symm, ← hT, z2] at hct hct1 hct2
          have hmk := fun w' (q : RowAt w' p g x) => bits_Mark w' p g x A B true q hAB
          have hmk2 := fun w' (q : RowAt w' p g (markB x A true B)) => bits_Mark w' p g _ A B false q (by rw [markB_length]; exact hAB)
          have hwh1 := fun w' (q : RowAt w' p g (markB x A true B)) => bits_Whole w' p g _ A B true q hra hrb
          have hwh2 := fun w' (q : RowAt w' p g (markB (markB x A true B) A false B)) => bits_Whole w' p g _ A B false q hra hrb
          have hw2t : wholeB (markB (markB x A true B) A false B) A B false = true := by
            rw [whole_free]
            exact ⟨by rw [markB_length, markB_length]; exact hAB, fun j hj => by rw [back_get x A B _ hfr]; exact hfr.2 j hj⟩
          simp only [whole_marked x A B hAB, hw2t] at hwh1 hwh2
          have W7 : IntKind.i64.wrap ((T : Int) + (B : Int)) = ((T + B : Nat) : Int) := by rw [IntWalk.i64_in _ (by omega)]; omega
          obtain ⟨x1, hx1⟩ : ∃ z, z = markB x A true B := ⟨_, rfl⟩
          obtain ⟨x2, hx2⟩ : ∃ z, z = markB x1 A false B := ⟨_, rfl⟩
          simp only [← hx1, ← hx2] at hct1 hct2 hmk hmk2 hwh1 hwh2
          clear hv hfit hfit2 hfr hT z2 hw2t hx1 hx2
          go_wp2_with fail
          with_reducible refine hwh.mono ?_
          rintro e w2 ⟨rfl, hc2⟩
          have hr2 := hr.ch0 hc2
          have s0 := hc2.cell e0 (fun q => q)
          have s1 := hc2.cell e4 (fun q => q)
          dsimp only
          go_wp2_with fail
          with_reducible refine (hct w2 hr2).mono ?_
          rintro e w3 ⟨rfl, rfl⟩
          dsimp only
          go_wp2_with fail
          with_reducible refine (hmk w2 hr2).mono ?_
          rintro e w3 ⟨rfl, hr3, hc3⟩
          have s2 := hc3.cell s0 hgX
          have s3 := hc3.cell s1 hgX
          have hcw3 : Ch No w w3 := (hcw.trans hc2).andThen hc3 (fun q hq => .inr (by have : q = g := hq; omega))
          dsimp only
          go_wp2_with fail
          with_reducible refine (hct1 w3 hr3).mono ?_
          rintro e w4 ⟨rfl, rfl⟩
          dsimp only
          go_wp2_with fail
          with_reducible refine (hwh1 w3 hr3).mono ?_
          rintro e w4 ⟨rfl, hc4⟩
          have hr4 := hr3.ch0 hc4
          have s4 := hc4.cell s2 (fun q => q)
          have s5 := hc4.cell s3 (fun q => q)
          dsimp only
          go_wp2_with fail
          with_reducible refine (hmk2 w4 hr4).mono ?_
          rintro e w5 ⟨rfl, hr5, hc5⟩
          have s6 := hc5.cell s4 hgX
          have s7 := hc5.cell s5 hgX
          have hcw5 : Ch No w w5 := (hcw3.trans hc4).andThen hc5 (fun q hq => .inr (by have : q = g := hq; omega))
          dsimp only
          go_wp2_with fail
          with_reducible refine (fixed02 _).mono ?_
          rintro e w6 ⟨rfl, hc6⟩
          have hr6 := hr5.ch0 hc6
          have s8 := hc6.cell s6 (fun q => q)
          have s9 := hc6.cell s7 (fun q => q)
          dsimp only
          go_wp2_with fail
          with_reducible refine (hct2 w6 hr6).mono ?_
          rintro e w7 ⟨rfl, rfl⟩
          dsimp only
          go_wp2_with fail
          with_reducible refine (hwh2 w6 hr6).mono ?_
          rintro e w7 ⟨rfl, hc7⟩
          dsimp only
          go_wp2_with fail
          go_ret
          exact ⟨rfl, (hcw5.trans hc6).trans hc7⟩
end Go.Proofs.Ytpldogmamifdpaa

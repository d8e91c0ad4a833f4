/- The law BitsFind: the walk. -/
import Derived.Test.YtpldogmamifdpaaLaw02
set_option linter.unusedVariables false
set_option linter.unusedSimpArgs false
namespace Go.Proofs.Ytpldogmamifdpaa
open Go Go.RowKit

theorem whole_free (x : List Bool) (a m : Nat) : wholeB x a m false = true ↔ FreeAt x a m := by
  unfold wholeB FreeAt
  rw [Bool.and_eq_true, decide_eq_true_iff, List.all_eq_true]
  simp only [Int.toNat_natCast, List.mem_range]
  unfold fitsB
  constructor
  · rintro ⟨h1, h2⟩
    exact ⟨by omega, fun j hj => by simpa using h2 j hj⟩
  · rintro ⟨h1, h2⟩
    exact ⟨by omega, fun j hj => by simpa using h2 j hj⟩

set_option maxRecDepth 100000 in
set_option maxHeartbeats 4000000 in
theorem find02 (w : World) (n : Int) (a : Option Addr) (c : Nat) (l : List BAct) (kk : Int) (h : SlR bactRp No w a c l) (hkk : 0 ≤ kk ∧ kk ≤ 255) (hn : 0 ≤ n ∧ n ≤ 65535) (hl : l.length ≤ 9223372036854775807) :
    Calls Try.prog 6 #[.int .u16 n, .slice a l.length c, .int .u8 kk] w fun e w' => e = .returned (.bool true) ∧ Ch No w w' := by
  by_cases hcut : 60 < l.length
  · have b3 : decide ((l.length : Int) > 60) = true := decide_eq_true (by omega)
    go_enter Try.func6, Try.ntmps6
    go_wp2_with fail
    with_reducible refine (fixed02 _).mono ?_
    rintro e w1 ⟨rfl, hc⟩
    dsimp only
    go_wp2_with fail
    go_ret
    exact ⟨rfl, hc⟩
  · have b3 : decide ((l.length : Int) > 60) = false := decide_eq_false (by omega)
    have hl60 : l.length ≤ 60 := by omega
    clear hcut hl
    obtain ⟨M, hM⟩ : ∃ M, M = n % 300 := ⟨_, rfl⟩
    have hM0 : 0 ≤ M ∧ M < 300 := by omega
    have e1 : IntKind.i64.wrap n = n := IntWalk.i64_in _ (by omega)
    have e2 : n.tmod 300 = M := by rw [hM]; exact Int.tmod_eq_emod_of_nonneg hn.1
    have e3 : IntKind.i64.wrap M = M := IntWalk.i64_in _ (by omega)
    obtain ⟨N, hN⟩ : ∃ N : Nat, N = M.toNat := ⟨_, rfl⟩
    have hMN : M = N := by omega
    have hN3 : N < 300 := by omega
    clear hM
    subst hMN
    clear hN hM0
    go_enter Try.func6, Try.ntmps6
    go_wp2_with fail
    with_reducible refine (bits_New w N (by omega)).mono ?_
    rintro e w1 ⟨p, g, rfl, h1, hp, hg, hc1⟩
    obtain ⟨x0, hx0⟩ : ∃ z, z = List.replicate N false := ⟨_, rfl⟩
    have hxl : x0.length = N := by rw [hx0, List.length_replicate]
    rw [← hx0] at h1
    clear hx0
    dsimp only
    go_wp2_with fail
    go_loopw [34] (fun i wr => ∃ (k : Nat) (x : List Bool), k ≤ l.length ∧ i = .int .i64 k ∧ x.length = N ∧ RowAt wr p g x ∧ Ch No w wr) (fun i _ => l.length - (intOf i).toNat)
    case atStart => exact ⟨0, x0, by omega, rfl, hxl, h1, hc1⟩
    case round =>
      obtain ⟨k, x, hk, rfl, hx, hr, hc⟩ := hrel
      clear h1 hc1 hxl
      by_cases hlt : k < l.length
      · obtain ⟨b, off, rfl, _, d0, d1, d2, ia, ib⟩ := (h.ch0 hc).bact_at k hlt
        obtain ⟨A, hA⟩ : ∃ A, A = l[k] := ⟨_, rfl⟩
        rw [← hA] at d0 d1 d2 ia ib
        clear hA h
        have hal : Ch No wr (wr.alloc (.cells #[.int .i64 A.a, .int .i64 A.b, .bool A.on] 32)) := (Ch.refl _ _).alloc _
        go_wp2_with fail
        with_reducible refine (bits_Mark_all _ p g x A.a A.b A.on (hr.ch0 hal) ia ib).mono ?_
        rintro e w2 ⟨rfl, hr2, hc2⟩
        have hml := markL_length x A.a A.b A.on
        dsimp only
        go_wp2_with fail
        go_roundw
        case rel => exact ⟨k + 1, _, by omega, by go_num, by rw [hml]; exact hx, hr2, (hc.trans hal).andThen hc2 (fun q hq => .inr (by have : q = g := hq; omega))⟩
        case measure => exact meas_lt (by omega)
      · obtain rfl : k = l.length := by omega
        clear h
        have W5 : IntKind.i64.wrap kk = kk := IntWalk.i64_in _ (by omega)
        have W6 : IntKind.i64.wrap (1 + kk) = 1 + kk := IntWalk.i64_in _ (by omega)
        obtain ⟨m, hm⟩ : ∃ m : Nat, (m : Int) = 1 + kk := ⟨(1 + kk).toNat, by omega⟩
        have hm1 : 1 ≤ m ∧ m ≤ 256 := by omega
        have hmi : I64 (m : Int) := show _ ∧ _ from by omega
        have hfd := bits_Find wr p g x m hr hm1.1 (by omega)
        rw [hm] at hfd
        have HM := Lib.hid hm; clear hm
        have hlen := bits_Len wr p g x hr
        rw [hx] at hlen
        go_wp2_with fail
        with_reducible refine hfd.mono ?_
        rintro e w2 ⟨r, rfl, hir, rfl⟩
        cases r with
        | none =>
          rw [show optV none = .tuple #[.int .i64 0, .bool false] from rfl]
          dsimp only
          go_wp2_with fail
          with_reducible refine hlen.mono ?_
          rintro e w3 ⟨rfl, rfl⟩
          dsimp only
          go_wp2_with fail
          go_loopw [65] (fun i wq => ∃ q : Nat, q ≤ N ∧ i = .int .i64 q ∧ Ch No wr wq) (fun i _ => N - (intOf i).toNat)
          case atStart => exact ⟨0, by omega, rfl, Ch.refl _ _⟩
          case round =>
            obtain ⟨q, hq, rfl, hcq⟩ := hrel
            by_cases hqt : q < N
            · have hwq : wholeB x q m false = false := by
                cases hv : wholeB x q m false with
                | false => rfl
                | true => exact absurd ((whole_free x q m).1 hv) (hir q)
              have hwc := bits_Whole _ p g x q m false (hr.ch0 hcq) (show _ ∧ _ from by omega) hmi
              rw [hwq, HM.out] at hwc
              go_wp2_with fail
              with_reducible refine hwc.mono ?_
              rintro e w4 ⟨rfl, hc4⟩
              dsimp only
              go_wp2_with fail
              go_roundw
              case rel => exact ⟨q + 1, by omega, by go_num, hcq.trans hc4⟩
              case measure => exact meas_lt (by omega)
            · obtain rfl : q = N := by omega
              go_wp2_with fail
              with_reducible refine (fixed02 _).mono ?_
              rintro e w4 ⟨rfl, hc4⟩
              dsimp only
              go_wp2_with fail
              go_ret
              exact ⟨rfl, (hc.trans hcq).trans hc4⟩
        | some a0 =>
          rw [show optV (some a0) = .tuple #[.int .i64 a0, .bool true] from rfl]
          obtain ⟨hfr, hnot⟩ := hir
          have hab : a0 + m ≤ N := by have := hfr.1; omega
          have hw0 := bits_Whole wr p g x a0 m false hr (show _ ∧ _ from by omega) hmi
          rw [(whole_free x a0 m).2 hfr, HM.out] at hw0
          clear hfr
          dsimp only
          go_wp2_with fail
          with_reducible refine hw0.mono ?_
          rintro e w3 ⟨rfl, hc3⟩
          dsimp only
          go_wp2_with fail
          go_loopw [65] (fun i wq => ∃ q : Nat, q ≤ a0 ∧ i = .int .i64 q ∧ Ch No wr wq) (fun i _ => a0 - (intOf i).toNat)
          case atStart => exact ⟨0, by omega, rfl, hc3⟩
          case round =>
            obtain ⟨q, hq, rfl, hcq⟩ := hrel
            by_cases hqt : q < a0
            · have hwq : wholeB x q m false = false := by
                cases hv : wholeB x q m false with
                | false => rfl
                | true => exact absurd ((whole_free x q m).1 hv) (hnot q hqt)
              have hwc := bits_Whole _ p g x q m false (hr.ch0 hcq) (show _ ∧ _ from by omega) hmi
              rw [hwq, HM.out] at hwc
              go_wp2_with fail
              with_reducible refine hwc.mono ?_
              rintro e w4 ⟨rfl, hc4⟩
              dsimp only
              go_wp2_with fail
              go_roundw
              case rel => exact ⟨q + 1, by omega, by go_num, hcq.trans hc4⟩
              case measure => exact meas_lt (by omega)
            · obtain rfl : q = a0 := by omega
              go_wp2_with fail
              with_reducible refine (fixed02 _).mono ?_
              rintro e w4 ⟨rfl, hc4⟩
              dsimp only
              go_wp2_with fail
              go_ret
              exact ⟨rfl, (hc.trans hcq).trans hc4⟩
end Go.Proofs.Ytpldogmamifdpaa

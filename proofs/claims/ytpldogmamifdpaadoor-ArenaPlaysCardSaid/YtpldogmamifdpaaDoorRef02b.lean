/- The reference of bits: Whole, Find, Mark. -/
import Derived.Test.YtpldogmamifdpaaDoorRef02
import Derived.Test.YtpldogmamifdpaaDoorMark
set_option linter.unusedVariables false
set_option linter.unusedSimpArgs false
namespace Go.Proofs.YtpldogmamifdpaaDoor
open Go Go.RowKit

set_option maxRecDepth 100000 in
set_option maxHeartbeats 2000000 in
theorem ref02_Whole (F : Nat → Prop) (w : World) (q : Option Addr) (c : Nat) (x : List Bool) (a b : Int) (on : Bool) (h : SlR boolRp F w q c x) (ha : I64 a) (hb : I64 b) (hn : x.length ≤ 100000) :
    Calls Tryd.prog 57 #[.slice q x.length c, .agg #[.int .i64 a, .int .i64 b], .bool on] w fun e w' => e = .returned (.bool (wholeB x a b on)) ∧ Ch No w w' := by
  have hfit := ref02_Fits (w.alloc (.cells #[.int .i64 a, .int .i64 b] 37)) q c x.length a b ha hb hn
  have hal : Ch No w (w.alloc (.cells #[.int .i64 a, .int .i64 b] 37)) := (Ch.refl _ _).alloc _
  have d0 : (w.alloc (.cells #[.int .i64 a, .int .i64 b] 37)).cell? ⟨w.heap.size, 0, none⟩ = some (.int .i64 a) := by simp
  have d1 : (w.alloc (.cells #[.int .i64 a, .int .i64 b] 37)).cell? ⟨w.heap.size, 1, none⟩ = some (.int .i64 b) := by simp
  unfold wholeB
  by_cases hf : fitsB x.length a b
  · rw [decide_eq_true hf] at hfit ⊢
    rw [Bool.true_and]
    have hf2 := hf
    unfold fitsB at hf2
    obtain ⟨A, rfl⟩ : ∃ A : Nat, a = A := ⟨a.toNat, by omega⟩
    obtain ⟨B, rfl⟩ : ∃ B : Nat, b = B := ⟨b.toNat, by omega⟩
    simp only [Int.toNat_natCast]
    have hAB : A + B ≤ x.length := by omega
    have hall : ∀ m, (∀ j, j < m → x.getD (A + j) false = on) → ((List.range m).all fun j => x.getD (A + j) false == on) = true := by
      intro m hm
      rw [List.all_eq_true]
      intro j hj
      rw [hm j (List.mem_range.1 hj)]
      simp
    have hnot : ∀ j, j < B → x.getD (A + j) false ≠ on → ((List.range B).all fun j => x.getD (A + j) false == on) = false := by
      intro j hj hne
      rw [List.all_eq_false]
      exact ⟨j, List.mem_range.2 hj, by simpa using hne⟩
    obtain ⟨R, hR⟩ : ∃ R, R = (List.range B).all fun j => x.getD (A + j) false == on := ⟨_, rfl⟩
    have HALL := hall B
    rw [← hR] at HALL hnot ⊢
    have HN := Lib.hid hnot; have HAA := Lib.hid HALL
    clear hf hf2 hall hR hnot HALL
    cases on
    · go_enter Tryd.func57, Tryd.ntmps57
      go_wp2_with fail
      with_reducible refine hfit.mono ?_
      rintro e w1 ⟨rfl, hc1⟩
      have e0 := hc1.cell d0 (fun q => q)
      have e1 := hc1.cell d1 (fun q => q)
      have h1 := (h.ch0 hal).ch0 hc1
      clear h
      dsimp only
      go_wp2_with fail
      go_loopw [7] (fun i wr => ∃ k : Nat, k ≤ B ∧ i = .int .i64 k ∧ (∀ j, j < k → x.getD (A + j) false = false) ∧ w1 = wr) (fun i _ => B - (intOf i).toNat)
      case atStart => exact ⟨0, by omega, rfl, fun j hj => absurd hj (by omega), rfl⟩
      case round =>
        obtain ⟨k, hk, rfl, hk2, rfl⟩ := hrel
        have HK := Lib.hid hk2; clear hk2
        by_cases hlt : k < B
        · have hb1 : decide ((k : Int) < (B : Int)) = true := decide_eq_true (by omega)
          obtain ⟨b, off, rfl, _, _, g0⟩ := h1.bool_at (A + k) (by omega)
          have hgd : x.getD (A + k) false = x[A + k]'(by omega) := by simp [List.getD_eq_getElem?_getD, show A + k < x.length by omega]
          rw [← hgd] at g0
          have HGD := Lib.hid hgd; clear hgd
          obtain ⟨q, hq⟩ : ∃ q, q = A + k := ⟨_, rfl⟩
          have W1 : IntKind.i64.wrap ((A : Int) + (k : Int)) = (q : Int) := by rw [IntWalk.i64_in _ (by omega)]; omega
          have hsum : (A : Int) + (k : Int) = (q : Int) := by omega
          rw [← hq] at g0
          have hqn : (q : Int) < (x.length : Int) := by omega
          have hqn2 : q < x.length := by omega
          have HQ := Lib.hid hq; clear hq
          cases hm : x.getD q false with
          | false =>
            rw [hm] at g0
            have HM := Lib.hid hm; clear hm
            go_wp2_with fail
            go_roundw
            case rel =>
              refine ⟨k + 1, by omega, by go_num, fun j h1 => ?_, trivial⟩
              by_cases hj : j = k
              · rw [hj, ← HQ.out]; exact HM.out
              · exact HK.out j (by omega)
            case measure => exact meas_lt (by omega)
          | true =>
            rw [hm] at g0
            have HM := Lib.hid hm; clear hm
            go_wp2_with fail
            go_ret
            exact ⟨by rw [HN.out k hlt (by rw [← HQ.out, HM.out]; decide)]; rfl, hal.trans hc1⟩
        · obtain rfl : k = B := by omega
          have hb1 : decide ((k : Int) < (k : Int)) = false := by simp
          go_wp2_with fail
          go_ret
          exact ⟨by rw [HAA.out HK.out]; rfl, hal.trans hc1⟩
    · go_enter Tryd.func57, Tryd.ntmps57
      go_wp2_with fail
      with_reducible refine hfit.mono ?_
      rintro e w1 ⟨rfl, hc1⟩
      have e0 := hc1.cell d0 (fun q => q)
      have e1 := hc1.cell d1 (fun q => q)
      have h1 := (h.ch0 hal).ch0 hc1
      clear h
      dsimp only
      go_wp2_with fail
      go_loopw [7] (fun i wr => ∃ k : Nat, k ≤ B ∧ i = .int .i64 k ∧ (∀ j, j < k → x.getD (A + j) false = true) ∧ w1 = wr) (fun i _ => B - (intOf i).toNat)
      case atStart => exact ⟨0, by omega, rfl, fun j hj => absurd hj (by omega), rfl⟩
      case round =>
        obtain ⟨k, hk, rfl, hk2, rfl⟩ := hrel
        have HK := Lib.hid hk2; clear hk2
        by_cases hlt : k < B
        · have hb1 : decide ((k : Int) < (B : Int)) = true := decide_eq_true (by omega)
          obtain ⟨b, off, rfl, _, _, g0⟩ := h1.bool_at (A + k) (by omega)
          have hgd : x.getD (A + k) false = x[A + k]'(by omega) := by simp [List.getD_eq_getElem?_getD, show A + k < x.length by omega]
          rw [← hgd] at g0
          have HGD := Lib.hid hgd; clear hgd
          obtain ⟨q, hq⟩ : ∃ q, q = A + k := ⟨_, rfl⟩
          have W1 : IntKind.i64.wrap ((A : Int) + (k : Int)) = (q : Int) := by rw [IntWalk.i64_in _ (by omega)]; omega
          have hsum : (A : Int) + (k : Int) = (q : Int) := by omega
          rw [← hq] at g0
          have hqn : (q : Int) < (x.length : Int) := by omega
          have hqn2 : q < x.length := by omega
          have HQ := Lib.hid hq; clear hq
          cases hm : x.getD q false with
          | true =>
            rw [hm] at g0
            have HM := Lib.hid hm; clear hm
            go_wp2_with fail
            go_roundw
            case rel =>
              refine ⟨k + 1, by omega, by go_num, fun j h1 => ?_, trivial⟩
              by_cases hj : j = k
              · rw [hj, ← HQ.out]; exact HM.out
              · exact HK.out j (by omega)
            case measure => exact meas_lt (by omega)
          | false =>
            rw [hm] at g0
            have HM := Lib.hid hm; clear hm
            go_wp2_with fail
            go_ret
            exact ⟨by rw [HN.out k hlt (by rw [← HQ.out, HM.out]; decide)]; rfl, hal.trans hc1⟩
        · obtain rfl : k = B := by omega
          have hb1 : decide ((k : Int) < (k : Int)) = false := by simp
          go_wp2_with fail
          go_ret
          exact ⟨by rw [HAA.out HK.out]; rfl, hal.trans hc1⟩
  · rw [decide_eq_false hf] at hfit ⊢
    rw [Bool.false_and]
    clear hf
    go_enter Tryd.func57, Tryd.ntmps57
    go_wp2_with fail
    with_reducible refine hfit.mono ?_
    rintro e w1 ⟨rfl, hc1⟩
    dsimp only
    go_wp2_with fail
    go_ret
    exact ⟨rfl, hal.trans hc1⟩

theorem ref02_Find_no (w : World) (q : Option Addr) (c k : Nat) (n : Int) (hn : n < 1) :
    Calls Tryd.prog 59 #[.slice q k c, .int .i64 n] w fun e w' => e = .returned (optV none) ∧ Ch No w w' := by
  have b1 : decide (n < 1) = true := decide_eq_true hn
  go_enter Tryd.func59, Tryd.ntmps59
  go_wp2_with fail
  go_ret2
  exact ⟨rfl, Ch.refl _ _⟩

set_option maxHeartbeats 2000000 in
theorem ref02_Find (F : Nat → Prop) (w : World) (q : Option Addr) (c : Nat) (x : List Bool) (m : Nat) (h : SlR boolRp F w q c x) (hm : 1 ≤ m) (hm2 : m ≤ 9223372036854775807) (hn : x.length ≤ 100000) :
    Calls Tryd.prog 59 #[.slice q x.length c, .int .i64 m] w fun e w' => ∃ r, e = .returned (optV r) ∧ IsFind x m r ∧ Ch No w w' := by
  have b1 : decide ((m : Int) < 1) = false := decide_eq_false (by omega)
  go_enter Tryd.func59, Tryd.ntmps59
  go_wp2_with fail
  go_loopw [6] (fun i wr => ∃ a : Nat, a ≤ x.length ∧ i = .int .i64 a ∧ (∀ b, b < a → ¬ FreeAt x b m) ∧ Ch No w wr) (fun i _ => x.length - (intOf i).toNat)
  case atStart => exact ⟨0, by omega, rfl, fun b hb => absurd hb (by omega), Ch.refl _ _⟩
  case round =>
    obtain ⟨a, ha, rfl, hno, hc⟩ := hrel
    have HNO := Lib.hid hno; clear hno
    by_cases hlt : a < x.length
    · have hwh := ref02_Whole F wr q c x a m false (h.ch0 hc) (show _ ∧ _ from by omega) (show _ ∧ _ from by omega) hn
      cases hv : wholeB x a m false with
      | true =>
        have hfr := (whole_free x a m).1 hv
        rw [hv] at hwh
        clear hv
        go_wp2_with fail
        with_reducible refine hwh.mono ?_
        rintro e w1 ⟨rfl, hc1⟩
        dsimp only
        go_wp2_with fail
        go_ret2
        exact ⟨some a, rfl, ⟨hfr, HNO.out⟩, hc.trans hc1⟩
      | false =>
        have hfr : ¬ FreeAt x a m := fun q => by have := (whole_free x a m).2 q; rw [hv] at this; cases this
        rw [hv] at hwh
        clear hv
        go_wp2_with fail
        with_reducible refine hwh.mono ?_
        rintro e w1 ⟨rfl, hc1⟩
        dsimp only
        go_wp2_with fail
        go_roundw
        case rel =>
          refine ⟨a + 1, by omega, by go_num, fun b hb => ?_, hc.trans hc1⟩
          by_cases hba : b = a
          · rw [hba]; exact hfr
          · exact HNO.out b (by omega)
        case measure => exact meas_lt (by omega)
    · obtain rfl : a = x.length := by omega
      go_wp2_with fail
      go_ret2
      refine ⟨none, rfl, fun b hb => ?_, hc⟩
      by_cases hba : b < x.length
      · exact HNO.out b hba hb
      · have := hb.1
        omega

theorem ref02_Mark_no (w : World) (q : Option Addr) (c n : Nat) (a b : Int) (on : Bool) (ha : I64 a) (hb : I64 b) (hn : n ≤ 100000) (hf : ¬ fitsB n a b) :
    Calls Tryd.prog 58 #[.slice q n c, .agg #[.int .i64 a, .int .i64 b], .bool on] w fun e w' => e = .returned (.tuple #[.slice q n c, .int .i64 8]) ∧ Ch No w w' := by
  have hfit := ref02_Fits (w.alloc (.cells #[.int .i64 a, .int .i64 b] 37)) q c n a b ha hb hn
  have hal : Ch No w (w.alloc (.cells #[.int .i64 a, .int .i64 b] 37)) := (Ch.refl _ _).alloc _
  rw [decide_eq_false hf] at hfit
  clear hf
  go_enter Tryd.func58, Tryd.ntmps58
  go_wp2_with fail
  with_reducible refine hfit.mono ?_
  rintro e w1 ⟨rfl, hc1⟩
  dsimp only
  go_wp2_with fail
  go_ret2
  exact ⟨rfl, hal.trans hc1⟩
end Go.Proofs.YtpldogmamifdpaaDoor

/- The reference of bits: New, Fits, Count, Next, Whole, Find. -/
import Derived.Test.YtpldogmamifdpaaDoorBits4
import Derived.Test.YtpldogmamifdpaaDoorRows2
set_option linter.unusedVariables false
set_option linter.unusedSimpArgs false
namespace Go.Proofs.YtpldogmamifdpaaDoor
open Go Go.RowKit

theorem infoBool : (Tryd.prog.info? 4).map (fun i => (i.zero, i.size, i.bytes)) = some (some (.bool false), 1, 1) := by kernel_rfl
theorem SlR.bool_at {F : Nat → Prop} {w : World} {a : Option Addr} {c : Nat} {l : List Bool} (h : SlR boolRp F w a c l) (i : Nat) (hi : i < l.length) :
    ∃ b off, a = some ⟨b, off, none⟩ ∧ ¬ F b ∧ b < w.heap.size ∧ w.cell? ⟨b, off + i, none⟩ = some (.bool l[i]) := by
  obtain ⟨b, off, ha, hb, hlt, es, hc, he, hw⟩ := h.at_ i hi
  subst he
  have := hc 0 _ rfl
  refine ⟨b, off, ha, hb, hlt, ?_⟩
  simpa [boolRp, flat] using this

theorem ref02_New_no (w : World) (n : Int) (h : n < 0 ∨ 16384 < n) :
    Calls Tryd.prog 43 #[.int .i64 n] w fun e w' => ∃ v, e = .returned (.tuple #[v, .int .i64 1]) ∧ Ch No w w' := by
  by_cases h0 : n < 0
  · have b1 : decide (n < 0) = true := decide_eq_true h0
    go_enter Tryd.func43, Tryd.ntmps43
    go_wp2_with fail
    go_ret2
    first | exact ⟨_, rfl, (Ch.refl _ _).alloc _⟩ | exact ⟨⟨_, rfl⟩, (Ch.refl _ _).alloc _⟩
  · have b1 : decide (n < 0) = false := decide_eq_false h0
    have b2 : decide (n > 16384) = true := decide_eq_true (by omega)
    go_enter Tryd.func43, Tryd.ntmps43
    go_wp2_with fail
    go_ret2
    first | exact ⟨_, rfl, (Ch.refl _ _).alloc _⟩ | exact ⟨⟨_, rfl⟩, (Ch.refl _ _).alloc _⟩

set_option maxHeartbeats 1000000 in
theorem ref02_New (F : Nat → Prop) (w : World) (n : Nat) (h : n ≤ 16384) (hF : ∀ k, F k → k < w.heap.size) :
    Calls Tryd.prog 43 #[.int .i64 n] w fun e w' => ∃ v, e = .returned (.tuple #[v, .int .i64 0]) ∧ OwnR boolRp w.heap.size 4 F w' v (List.replicate n false) ∧ Ch No w w' := by
  have b1 : decide ((n : Int) < 0) = false := decide_eq_false (by omega)
  have b2 : decide ((n : Int) > 16384) = false := decide_eq_false (by omega)
  go_enter Tryd.func43, Tryd.ntmps43
  go_wp2_with fail
  go_loopw [4, 5] (fun v i wr => ∃ k : Nat, k ≤ n ∧ i = .int .i64 k ∧ OwnR boolRp w.heap.size 4 F wr v (List.replicate k false) ∧ Ch No w wr) (fun _ i _ => n - (intOf i).toNat)
  case atStart => exact ⟨0, by omega, rfl, OwnR.lit0 (Nat.le_refl _), (Ch.refl _ _).alloc _⟩
  case round =>
    obtain ⟨k, hk, rfl, ho, hc⟩ := hrel
    by_cases hlt : k < n
    · have hb1 : decide ((k : Int) < (n : Int)) = true := decide_eq_true (by omega)
      go_wp2_with (at_builtin; go_loud (refine wpL_push rfl _ _ _ rfl w.heap.size 4 (.bool false) 1 1 Tryd.underlying58 infoBool rfl (by decide) boolRp rfl F u4 (List.replicate k false) rfl ho [.bool false] _ false 1 (by go_simp) ⟨rfl, trivial⟩ hF (by rw [List.length_replicate]; omega) (by rw [List.length_replicate]; omega) hc.size ?_); intro v1 w1 ho1 hg1 _)
      go_roundw
      case rel => exact ⟨k + 1, by omega, by go_num, by rw [List.replicate_succ']; exact ho1, hg1 _ _ (Nat.le_refl _) hc⟩
      case measure => exact meas_lt (by omega)
    · obtain rfl : k = n := by omega
      have hb1 : decide ((k : Int) < (k : Int)) = false := by simp
      go_wp2_with fail
      go_ret2
      exact ⟨_, rfl, ho, hc⟩

set_option maxHeartbeats 1000000 in
theorem ref02_Fits (w : World) (q : Option Addr) (c n : Nat) (a b : Int) (ha : I64 a) (hb : I64 b) (hn : n ≤ 100000) :
    Calls Tryd.prog 56 #[.slice q n c, .agg #[.int .i64 a, .int .i64 b]] w fun e w' => e = .returned (.bool (decide (fitsB n a b))) ∧ Ch No w w' := by
  have ha' := ha.bd
  have hb' := hb.bd
  by_cases h1 : a < 0
  · have e : decide (fitsB n a b) = false := decide_eq_false (by unfold fitsB; omega)
    have b1 : decide (a < 0) = true := decide_eq_true h1
    rw [e]; clear e h1 ha' hb'
    go_enter Tryd.func56, Tryd.ntmps56
    go_wp2_with fail
    go_ret
    exact ⟨rfl, (Ch.refl _ _).alloc _⟩
  · have b1 : decide (a < 0) = false := decide_eq_false h1
    by_cases h2 : b < 0
    · have e : decide (fitsB n a b) = false := decide_eq_false (by unfold fitsB; omega)
      have b2 : decide (b < 0) = true := decide_eq_true h2
      rw [e]; clear e h1 h2 ha' hb'
      go_enter Tryd.func56, Tryd.ntmps56
      go_wp2_with fail
      go_ret
      exact ⟨rfl, (Ch.refl _ _).alloc _⟩
    · have b2 : decide (b < 0) = false := decide_eq_false h2
      by_cases h3 : a > n
      · have e : decide (fitsB n a b) = false := decide_eq_false (by unfold fitsB; omega)
        have b3 : decide (a > (n : Int)) = true := decide_eq_true h3
        rw [e]; clear e h1 h2 h3 ha' hb'
        go_enter Tryd.func56, Tryd.ntmps56
        go_wp2_with fail
        go_ret
        exact ⟨rfl, (Ch.refl _ _).alloc _⟩
      · have b3 : decide (a > (n : Int)) = false := decide_eq_false h3
        by_cases h4 : b > n
        · have e : decide (fitsB n a b) = false := decide_eq_false (by unfold fitsB; omega)
          have b4 : decide (b > (n : Int)) = true := decide_eq_true h4
          rw [e]; clear e h1 h2 h3 h4 ha' hb'
          go_enter Tryd.func56, Tryd.ntmps56
          go_wp2_with fail
          go_ret
          exact ⟨rfl, (Ch.refl _ _).alloc _⟩
        · have b4 : decide (b > (n : Int)) = false := decide_eq_false h4
          have W1 : IntKind.i64.wrap (a + b) = a + b := IntWalk.i64_in _ (by omega)
          have e : decide (fitsB n a b) = decide (a + b ≤ (n : Int)) := by
            by_cases h5 : a + b ≤ n
            · rw [decide_eq_true h5]; exact decide_eq_true (by unfold fitsB; omega)
            · rw [decide_eq_false h5]; exact decide_eq_false (by unfold fitsB; omega)
          rw [e]; clear e
          go_enter Tryd.func56, Tryd.ntmps56
          go_wp2_with fail
          go_ret
          exact ⟨rfl, (Ch.refl _ _).alloc _⟩

set_option maxHeartbeats 1000000 in
theorem ref02_Count (F : Nat → Prop) (w : World) (a : Option Addr) (c : Nat) (x : List Bool) (h : SlR boolRp F w a c x) (hn : x.length ≤ 100000) :
    Calls Tryd.prog 27 #[.slice a x.length c] w fun e w' => e = .returned (.int .i64 (cntTo x x.length)) ∧ w = w' := by
  go_enter Tryd.func27, Tryd.ntmps27
  go_wp2_with fail
  go_loopw [3, 4] (fun t i wr => ∃ k : Nat, k ≤ x.length ∧ i = .int .i64 k ∧ t = .int .i64 (cntTo x k : Nat) ∧ w = wr) (fun _ i _ => x.length - (intOf i).toNat)
  case atStart => exact ⟨0, by omega, rfl, rfl, rfl⟩
  case round =>
    obtain ⟨k, hk, rfl, rfl, rfl⟩ := hrel
    by_cases hlt : k < x.length
    · obtain ⟨b, off, rfl, _, _, d0⟩ := h.bool_at k hlt
      have hb1 : cntTo x k ≤ k := popB_le _ _
      have hg : x.getD k false = x[k] := by simp [List.getD_eq_getElem?_getD, hlt]
      have e2 : cntTo x (k + 1) = cntTo x k + (if x.getD k false = true then 1 else 0) := rfl
      rw [hg] at e2
      obtain ⟨T, hT⟩ : ∃ T, T = cntTo x k := ⟨_, rfl⟩
      simp only [← hT] at e2 hb1 ⊢
      cases hv : x[k] with
      | true =>
        rw [hv] at d0 e2
        have E2 := Lib.hid e2
        clear e2 hT hg hv
        go_wp2_with fail
        go_roundw
        case rel => exact ⟨k + 1, by omega, by go_num, by rw [E2.out]; go_num, trivial⟩
        case measure => exact meas_lt (by omega)
      | false =>
        rw [hv] at d0 e2
        have E2 := Lib.hid e2
        clear e2 hT hg hv
        go_wp2_with fail
        go_roundw
        case rel => exact ⟨k + 1, by omega, by go_num, by rw [E2.out]; rfl, trivial⟩
        case measure => exact meas_lt (by omega)
    · obtain rfl : k = x.length := by omega
      go_wp2_with fail
      go_ret
      exact ⟨rfl, rfl⟩
end Go.Proofs.YtpldogmamifdpaaDoor

/- The document's answer for layer 9: In. -/
import Derived.Test.YtpldogmamifdpaaRef09
set_option linter.unusedVariables false
set_option linter.unusedSimpArgs false
namespace Go.Proofs.Ytpldogmamifdpaa
open Go Go.RowKit

def inP (a b y : Int) : Bool := decide (0 ≤ a ∧ 0 ≤ b ∧ a ≤ y ∧ y - a < b)
theorem inP_t {a b y : Int} (h : 0 ≤ a ∧ 0 ≤ b ∧ a ≤ y ∧ y - a < b) : inP a b y = true := decide_eq_true h
theorem inP_f {a b y : Int} (h : ¬ (0 ≤ a ∧ 0 ≤ b ∧ a ≤ y ∧ y - a < b)) : inP a b y = false := decide_eq_false h
theorem filt_t {P : Int → Bool} {l : List Int} {k : Nat} {x : Int} (h : k < l.length) (hx : x = l[k]) (hp : P x = true) : (l.take (k + 1)).filter P = (l.take k).filter P ++ [x] := by
  rw [List.take_succ_eq_append_getElem h, List.filter_append, ← hx]
  simp [hp]
theorem filt_f {P : Int → Bool} {l : List Int} {k : Nat} {x : Int} (h : k < l.length) (hx : x = l[k]) (hp : P x = false) : (l.take (k + 1)).filter P = (l.take k).filter P := by
  rw [List.take_succ_eq_append_getElem h, List.filter_append, ← hx]
  simp [hp]
theorem filt_le (P : Int → Bool) (l : List Int) (k : Nat) : ((l.take k).filter P).length ≤ l.length := Nat.le_trans (List.length_filter_le _ _) (by simp; omega)

set_option maxRecDepth 100000 in
set_option maxHeartbeats 2000000 in
theorem ref09_In (F : Nat → Prop) (w : World) (a : Option Addr) (c : Nat) (l : List Int) (W f n : Int) (h : Is9 F w a c l) (hl : l.length ≤ 100000) (hb : ∀ y ∈ l, 0 ≤ y ∧ y ≤ 16384) (hF : ∀ k, F k → k < w.heap.size) (hf : I64 f) (hn : I64 n) :
    Calls Try.prog 39 #[stV a l.length c W, .agg #[.int .i64 f, .int .i64 n]] w fun e w' => ∃ v, e = .returned v ∧ OwnR (intRp .i64) w.heap.size 3 F w' v (l.filter (inP f n)) ∧ Ch No w w' := by
  unfold stV
  have hf' := hf.bd
  have hn' := hn.bd
  obtain ⟨w1, hw1⟩ : ∃ z, z = (w.alloc (.cells #[.slice a l.length c, .int .i64 W] 63)).alloc (.cells #[.int .i64 f, .int .i64 n] 30) := ⟨_, rfl⟩
  have hc1 : Ch No w w1 := by rw [hw1]; exact ((Ch.refl _ _).alloc _).alloc _
  have h1 := h.ch0 hc1
  have hs1 : w1.heap.size = w.heap.size + 1 + 1 := by rw [hw1]; simp
  have c0 : w1.cell? ⟨w.heap.size, 0, none⟩ = some (.slice a l.length c) := by
    rw [hw1]
    exact ((Ch.refl No _).alloc _).cell (cellOf (World.alloc_heap_new _ _) 0 rfl) (fun q => q)
  have c1 : w1.cell? ⟨w.heap.size + 1, 0, none⟩ = some (.int .i64 f) ∧ w1.cell? ⟨w.heap.size + 1, 1, none⟩ = some (.int .i64 n) := by
    rw [hw1]
    have := World.alloc_heap_new (w.alloc (.cells #[.slice a l.length c, .int .i64 W] 63)) (.cells #[.int .i64 f, .int .i64 n] 30)
    rw [World.size_alloc] at this
    exact ⟨cellOf this 0 rfl, cellOf this 1 rfl⟩
  have hF1 : ∀ k, F k → k < w1.heap.size := fun k hk => by have := hF k hk; omega
  go_enter Try.func39, Try.ntmps39
  go_wp2_with fail
  rw [← hw1]
  clear hw1 h
  go_loopw [5, 6] (fun v i wr => ∃ k : Nat, k ≤ l.length ∧ i = .int .i64 k ∧ OwnR (intRp .i64) w1.heap.size 3 F wr v ((l.take k).filter (inP f n)) ∧ Ch No w1 wr) (fun _ i _ => l.length - (intOf i).toNat)
  case atStart => exact ⟨0, by omega, rfl, by rw [← hs1]; exact OwnR.lit0 (Nat.le_refl _), (Ch.refl _ _).alloc _⟩
  case round =>
    obtain ⟨k, hk, rfl, ho, hc⟩ := hrel
    have d0 := hc.cell c0 (fun q => q)
    have d1 := hc.cell c1.1 (fun q => q)
    have d2 := hc.cell c1.2 (fun q => q)
    by_cases hlt : k < l.length
    · obtain ⟨b, off, rfl, _, _, c2, _⟩ := (h1.ch0 hc).int_at k hlt
      obtain ⟨x, hx⟩ : ∃ x, x = l[k] := ⟨_, rfl⟩
      rw [← hx] at c2
      have hxb : 0 ≤ x ∧ x ≤ 16384 := by rw [hx]; exact hb _ (List.getElem_mem hlt)
      have hft := fun hp => filt_t (P := inP f n) hlt hx hp
      have hff := fun hp => filt_f (P := inP f n) hlt hx hp
      have hle := filt_le (inP f n) l k
      obtain ⟨M, hM⟩ : ∃ z, z = (l.take k).filter (inP f n) := ⟨_, rfl⟩
      rw [← hM] at ho hle hft hff
      have HX := Lib.hid hx; clear hx hM
      by_cases q1 : 0 ≤ f
      · have b1 : decide (f ≥ 0) = true := decide_eq_true q1
        by_cases q2 : 0 ≤ n
        · have b2 : decide (n ≥ 0) = true := decide_eq_true q2
          by_cases q3 : f ≤ x
          · have b3 : decide (x ≥ f) = true := decide_eq_true q3
            have W1 : IntKind.i64.wrap (x - f) = x - f := IntWalk.i64_in _ (by omega)
            by_cases q4 : x - f < n
            · have b4 : decide (x - f < n) = true := decide_eq_true q4
              have hft := Lib.hid (hft (inP_t ⟨q1, q2, q3, q4⟩))
              clear hff q1 q2 q3 q4
              go_wp2_with fail
              go_quiet (fail)
              go_wp2_with (at_builtin; go_loud (refine wpL_push rfl _ _ _ rfl w1.heap.size 3 (.int .i64 0) 1 8 Try.underlying44 infoI64 rfl (by decide) (intRp .i64) rfl F u5 M rfl (ho.ch0 ((Ch.refl _ _).drewN _)) [.int .i64 x] _ x 1 (by go_simp) ⟨rfl, (show _ ∧ _ from by omega)⟩ hF1 (by omega) (by omega) hc.size ?_); intro v9 w9 ho9 hg9 _)
              go_roundw
              case rel => exact ⟨k + 1, by omega, by go_num, by rw [hft.out]; exact ho9, hg9 _ _ (Nat.le_refl _) (hc.drewN _)⟩
              case measure => exact meas_lt (by omega)
            · have b4 : decide (x - f < n) = false := decide_eq_false q4
              have hff := Lib.hid (hff (inP_f (fun q => q4 q.2.2.2)))
              clear hft q1 q2 q3 q4
              go_wp2_with fail
              go_quiet (fail)
              go_wp2_with fail
              go_roundw
              case rel => exact ⟨k + 1, by omega, by go_num, by rw [hff.out]; exact ho.ch0 ((Ch.refl _ _).drewN _), hc.drewN _⟩
              case measure => exact meas_lt (by omega)
          · have b3 : decide (x ≥ f) = false := decide_eq_false q3
            have hff := Lib.hid (hff (inP_f (fun q => q3 q.2.2.1)))
            clear hft q1 q2 q3
            go_wp2_with fail
            go_quiet (fail)
            go_wp2_with fail
            go_roundw
            case rel => exact ⟨k + 1, by omega, by go_num, by rw [hff.out]; exact ho.ch0 ((Ch.refl _ _).drewN _), hc.drewN _⟩
            case measure => exact meas_lt (by omega)
        · have b2 : decide (n ≥ 0) = false := decide_eq_false q2
          have hff := Lib.hid (hff (inP_f (fun q => q2 q.2.1)))
          clear hft q1 q2
          go_wp2_with fail
          go_quiet (fail)
          go_wp2_with fail
          go_roundw
          case rel => exact ⟨k + 1, by omega, by go_num, by rw [hff.out]; exact ho.ch0 ((Ch.refl _ _).drewN _), hc.drewN _⟩
          case measure => exact meas_lt (by omega)
      · have b1 : decide (f ≥ 0) = false := decide_eq_false q1
        have hff := Lib.hid (hff (inP_f (fun q => q1 q.1)))
        clear hft q1
        go_wp2_with fail
        go_quiet (fail)
        go_wp2_with fail
        go_roundw
        case rel => exact ⟨k + 1, by omega, by go_num, by rw [hff.out]; exact ho.ch0 ((Ch.refl _ _).drewN _), hc.drewN _⟩
        case measure => exact meas_lt (by omega)
    · obtain rfl : k = l.length := by omega
      rw [List.take_length] at ho
      go_wp2_with fail
      go_ret
      exact ⟨_, rfl, ho.base (by omega), hc1.trans hc⟩
end Go.Proofs.Ytpldogmamifdpaa

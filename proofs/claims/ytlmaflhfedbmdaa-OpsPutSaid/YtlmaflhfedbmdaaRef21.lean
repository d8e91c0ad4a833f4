/- The reference of ops: Get, Same, Put. -/
import Derived.Test.YtlmaflhfedbmdaaOpsGet2
set_option linter.unusedVariables false
set_option linter.unusedSimpArgs false
namespace Go.Proofs.Ytlmaflhfedbmdaa
open Go Go.RowKit

set_option maxRecDepth 100000 in
theorem ref21_Same (w : World) (F G : Nat → Prop) (a a' : Option Addr) (c c' : Nat) (l : List OpV) (h : SlR opRp F w a c l) (h' : SlR opRp G w a' c' l) (hl : l.length ≤ 100000) :
    Calls Try.prog 24 #[.slice a l.length c, .slice a' l.length c'] w fun e w' => e = .returned (.bool true) ∧ Ch No w w' := by
  go_enter Try.func24, Try.ntmps24
  go_wp2_with fail
  go_loopw [5] (fun i wr => ∃ k : Nat, k ≤ l.length ∧ i = .int .i64 k ∧ Ch No w wr) (fun i _ => l.length - (intOf i).toNat)
  case atStart => exact ⟨0, by omega, rfl, Ch.refl _ _⟩
  case round =>
    obtain ⟨k, hk, rfl, hc⟩ := hrel
    by_cases hlt : k < l.length
    · obtain ⟨b, off, rfl, _, _, c1, c2, c3, c4, _⟩ := (h.ch0 hc).op_at k hlt
      obtain ⟨b', off', rfl, _, _, d1, d2, d3, d4, _⟩ := (h'.ch0 hc).op_at k hlt
      obtain ⟨x, hx⟩ : ∃ x, x = l[k] := ⟨_, rfl⟩
      rw [← hx] at c1 c2 c3 c4 d1 d2 d3 d4
      clear hx h h'
      go_wp2_with fail
      go_quiet (fail)
      go_wp2_with fail
      go_roundw
      case rel => exact ⟨k + 1, by omega, by go_num, hc.drewN _⟩
      case measure => exact meas_lt (by omega)
    · obtain rfl : k = l.length := by omega
      go_wp2_with fail
      go_ret
      exact ⟨rfl, hc⟩

set_option maxRecDepth 100000 in
set_option maxHeartbeats 4000000 in
theorem ref21_Get (F : Nat → Prop) (w : World) (l : List Int) (hb : ∀ x ∈ l, 0 ≤ x ∧ x ≤ 255) (hl : l.length ≤ 100000) (hF : ∀ k, F k → k < w.heap.size) :
    Calls Try.prog 25 #[str l] w fun e w' => ∃ v, e = .returned (.tuple #[v, .int .i64 (getE l)]) ∧ OwnR opRp w.heap.size 92 F w' v (getL l) ∧ Ch No w w' := by
  have hsz : (strOfNums l).size = l.length := strOfNums_size l
  by_cases h25 : l.length % 25 = 0
  · unfold getE getL
    rw [if_pos h25, if_pos h25]
    have e1 : decide (((strOfNums l).size : Int) % 25 > 0) = false := decide_eq_false (by rw [hsz]; omega)
    obtain ⟨K, hK⟩ : ∃ K, K = l.length / 25 := ⟨_, rfl⟩
    rw [← hK]
    have hl25 : l.length = 25 * K := by omega
    have hK1 : K ≤ 4000 := by omega
    clear hK h25
    go_enter Try.func25, Try.ntmps25
    go_wp2_with fail
    go_loopw [4, 5] (fun v i wr => ∃ k : Nat, k ≤ K ∧ i = .int .i64 (25 * k : Nat) ∧ OwnR opRp w.heap.size 92 F wr v (getN k l) ∧ Ch No w wr) (fun _ i _ => l.length - (intOf i).toNat)
    case atStart => exact ⟨0, by omega, rfl, OwnR.lit0 (Nat.le_refl _), (Ch.refl _ _).alloc _⟩
    case round =>
      obtain ⟨k, hk, rfl, ho, hc⟩ := hrel
      by_cases hlt : k < K
      · have hd : decide (((25 * k : Nat) : Int) < 25 * (K : Int)) = true := decide_eq_true (by omega)
        have hgt := getN_succ k l
        have hgl := getN_length k l
        obtain ⟨q, hq⟩ : ∃ q, q = 25 * k := ⟨_, rfl⟩
        have hql : q + 25 ≤ l.length := by omega
        rw [← hq] at hd hgt ⊢
        have hi0 : q < l.length := by omega
        have hx0 := hb _ (List.getElem_mem hi0)
        have hi2 : q < (strOfNums l).size := by rw [hsz]; exact hi0
        have hch := chr_at l q hi0 hx0 hi2
        have hop : (⟨l[q], numOf 8 (l.drop (q + 1)), numOf 8 (l.drop (q + 9)), numOf 8 (l.drop (q + 17))⟩ : OpV) = opOf (l.drop q) := by
          simp only [opOf, List.drop_drop]
          simp [List.getD_eq_getElem?_getD, hi0]
        have hopW := opOf_wf (l.drop q) (fun x hx => hb x (List.mem_of_mem_drop hx))
        rw [← hop] at hopW hgt
        clear hop
        have k1 : ∀ (j : Nat) (hj : j + 8 ≤ l.length) (w' : World), Calls Try.prog 44 #[str l, .int .i64 j] w' fun e w'' => e = .returned (.int .u64 (numOf 8 (l.drop j))) ∧ w' = w'' := fun j hj w' => ref21_read w' l j hb hj hl
        have r1 := k1 (q + 1) (by omega)
        have r9 := k1 (q + 9) (by omega)
        have r17 := k1 (q + 17) (by omega)
        have W1 : IntKind.i64.wrap ((q : Int) + 1) = ((q + 1 : Nat) : Int) := by rw [IntWalk.i64_in _ (by omega)]; omega
        have W9 : IntKind.i64.wrap ((q : Int) + 9) = ((q + 9 : Nat) : Int) := by rw [IntWalk.i64_in _ (by omega)]; omega
        have W17 : IntKind.i64.wrap ((q : Int) + 17) = ((q + 17 : Nat) : Int) := by rw [IntWalk.i64_in _ (by omega)]; omega
        obtain ⟨n1, f1⟩ : ∃ z, z = numOf 8 (l.drop (q + 1)) := ⟨_, rfl⟩
        obtain ⟨n9, f9⟩ : ∃ z, z = numOf 8 (l.drop (q + 9)) := ⟨_, rfl⟩
        obtain ⟨n17, f17⟩ : ∃ z, z = numOf 8 (l.drop (q + 17)) := ⟨_, rfl⟩
        simp only [← f1, ← f9, ← f17] at r1 r9 r17 hopW hgt
        obtain ⟨x, hx⟩ : ∃ x, x = l[q] := ⟨_, rfl⟩
        rw [← hx] at hch hx0 hopW hgt
        have Wx : IntKind.i64.wrap x = x := IntWalk.i64_in _ (by omega)
        obtain ⟨a1, g1⟩ : ∃ z, z = q + 1 := ⟨_, rfl⟩
        obtain ⟨a9, g9⟩ : ∃ z, z = q + 9 := ⟨_, rfl⟩
        obtain ⟨a17, g17⟩ : ∃ z, z = q + 17 := ⟨_, rfl⟩
        rw [← g1] at r1 W1
        rw [← g9] at r9 W9
        rw [← g17] at r17 W17
        have hH : Ch No w wr.drew := hc.drew
        have hq2 : (q : Int) < 25 * (K : Int) := by omega
        have HQ := Lib.hid hq; have HL := Lib.hid hl25; have HGL := Lib.hid hgl; have HGT := Lib.hid hgt
        clear hq hl25 hgl hgt f1 f9 f17 hx k1 g1 g9 g17
        go_wp2_with fail
        go_region_held3 (fun w' : World => Ch No w w') (first | assumption | exact Ch.alloc (by assumption) _ | fail) (first
          | (go_at_call 44; with_reducible refine (r1 _).mono ?_; rintro e w9 ⟨rfl, rfl⟩; (try dsimp only))
          | (go_at_call 44; with_reducible refine (r9 _).mono ?_; rintro e w9 ⟨rfl, rfl⟩; (try dsimp only))
          | (go_at_call 44; with_reducible refine (r17 _).mono ?_; rintro e w9 ⟨rfl, rfl⟩; (try dsimp only))
          | (refine step_push_drew (by rfl) _ _ _ (by rfl) w.heap.size 92 (.agg #[.int .i64 0, .int .u64 0, .int .u64 0, .int .u64 0]) 4 32 Try.underlying46 infoOp rfl (by decide) opRp rfl F u4 (getN k l) (by rfl) (ho.ch0 (Ch.refl _ _).drew) [.int .i64 x, .int .u64 n1, .int .u64 n9, .int .u64 n17] _ ⟨x, n1, n9, n17⟩ 1 (by rfl) ⟨rfl, hopW⟩ hF (by rw [HGL.out]; omega) (by rw [HGL.out]; omega) hc.size ?_; intro v9 w9 hO9 hC9 _; have hW9 := hC9 No w (Nat.le_refl _) hc.drew)
          | fail)
        all_goals
          go_wp2_with fail
          go_roundw
          case rel => exact ⟨k + 1, by omega, by (have HQ' := HQ.out); rw [HQ']; go_num, by rw [HGT.out]; exact hO9, hW9⟩
          case measure =>
            have HL' := HL.out; have HQ' := HQ.out
            show l.length - ((q : Int) + 25).toNat < l.length - ((q : Int)).toNat
            omega
      · obtain rfl : k = K := by omega
        have hd : decide (((25 * k : Nat) : Int) < 25 * (k : Int)) = false := decide_eq_false (by omega)
        go_wp2_with fail
        go_ret2
        exact ⟨_, rfl, ho, hc⟩
  · unfold getE getL
    rw [if_neg h25, if_neg h25]
    have e1 : decide (((strOfNums l).size : Int) % 25 > 0) = true := decide_eq_true (by rw [hsz]; omega)
    go_enter Try.func25, Try.ntmps25
    go_wp2_with fail
    go_ret2
    exact ⟨_, rfl, OwnR.lit0 (Nat.le_refl _), (Ch.refl _ _).alloc _⟩
end Go.Proofs.Ytlmaflhfedbmdaa

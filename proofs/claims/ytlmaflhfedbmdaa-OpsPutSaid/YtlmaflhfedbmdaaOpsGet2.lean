/- Package ops: Get. -/
import Derived.Test.YtlmaflhfedbmdaaOpsGet
import Derived.Test.YtlmaflhfedbmdaaStep
set_option linter.unusedVariables false
set_option linter.unusedSimpArgs false
namespace Go.Proofs.Ytlmaflhfedbmdaa
open Go Go.RowKit

theorem infoOp : (Try.prog.info? 92).map (fun i => (i.zero, i.size, i.bytes)) = some (some (.agg #[.int .i64 0, .int .u64 0, .int .u64 0, .int .u64 0]), 4, 32) := by kernel_rfl
def lenOf : Value → Nat | .slice _ n _ => n | _ => 0

theorem getN_succ : ∀ (k : Nat) (bs : List Int), getN (k + 1) bs = getN k bs ++ [opOf (bs.drop (25 * k))]
  | 0, bs => by simp [getN]
  | k + 1, bs => by
    rw [getN, getN_succ k (bs.drop 25), List.drop_drop, show 25 + 25 * k = 25 * (k + 1) by omega]
    rfl
theorem getN_length : ∀ (k : Nat) (bs : List Int), (getN k bs).length = k
  | 0, _ => rfl
  | k + 1, bs => by simp [getN, getN_length k]

set_option maxRecDepth 100000 in
theorem ops_Get (F : Nat → Prop) (w : World) (a : Option Addr) (c : Nat) (l : List Int) (h : SlR (intRp .u8) F w a c l) (hb : ∀ x ∈ l, 0 ≤ x ∧ x ≤ 255) (hl : l.length ≤ 100000) (hF : ∀ k, F k → k < w.heap.size) :
    Calls Try.prog 23 #[.slice a l.length c] w fun e w' => ∃ v, e = .returned (.tuple #[v, .int .i64 (getE l)]) ∧ OwnR opRp w.heap.size 92 F w' v (getL l) ∧ Ch No w w' := by
  by_cases h25 : l.length % 25 = 0
  · have e1 : ((l.length : Int) % 25 != 0) = false := by simp; omega
    unfold getE getL
    rw [if_pos h25, if_pos h25]
    obtain ⟨K, hK⟩ : ∃ K, K = l.length / 25 := ⟨_, rfl⟩
    rw [← hK]
    have hl25 : l.length = 25 * K := by omega
    clear hK h25
    go_enter Try.func23, Try.ntmps23
    go_wp2_with fail
    go_loopw [0, 4] (fun s v wr => ∃ (k : Nat) (a' : Option Addr) (c' : Nat), k ≤ K ∧ s = .slice a' (25 * (K - k)) c' ∧ SlR (intRp .u8) F w a' c' (l.drop (25 * k)) ∧ OwnR opRp w.heap.size 92 F wr v (getN k l) ∧ Ch No w wr) (fun s _ _ => lenOf s)
    case atStart => exact ⟨0, a, c, by omega, by rw [hl25]; rfl, by simpa using h, OwnR.nilR _ _ _ _ _, Ch.refl _ _⟩
    case round =>
      obtain ⟨k, a', c', hk, rfl, hr, ho, hc⟩ := hrel
      have hdl : (l.drop (25 * k)).length = 25 * (K - k) := by rw [List.length_drop]; omega
      by_cases hlt : k < K
      · obtain ⟨b, off, rfl, _, _, c1, _⟩ := (hr.ch0 hc).int_at 0 (by rw [hdl]; omega)
        have hd : decide ((25 * (K - k) : Nat) > (0 : Int)) = true := decide_eq_true (by omega)
        have hgt := getN_succ k l
        have hgl := getN_length k l
        have hbd : ∀ x ∈ l.drop (25 * k), 0 ≤ x ∧ x ≤ 255 := fun x hx => hb x (List.mem_of_mem_drop hx)
        obtain ⟨D, hD⟩ : ∃ D, D = l.drop (25 * k) := ⟨_, rfl⟩
        rw [← hD] at hgt hr hdl hbd
        obtain ⟨x, hx⟩ : ∃ x, x = D.getD 0 0 := ⟨_, rfl⟩
        have c1 : wr.cell? ⟨b, off, none⟩ = some (.int .u8 x) := by
          have h0 : 0 < D.length := by rw [hdl]; omega
          rw [hx]
          obtain ⟨b2, off2, hq, _, _, c2, _⟩ := (hr.ch0 hc).int_at 0 h0
          cases hq
          simpa [List.getD_eq_getElem?_getD, h0] using c2
        obtain ⟨n, hn⟩ : ∃ n, n = 25 * (K - k) := ⟨_, rfl⟩
        rw [← hn] at hd hdl ⊢
        go_wp2_with fail
        have kN : ∀ (j : Nat) (hj : j + 8 ≤ n) (w' : World), Ch No w w' → Calls Try.prog 43 #[.slice (some ⟨b, off + j, none⟩) (n - j) (c' - j)] w' fun e w'' => e = .returned (.int .u64 (numOf 8 (D.drop j))) ∧ w' = w'' := by
          intro j hj w' hc'
          have r1 := (hr.ch0 hc').drop j (by omega)
          rw [show off + j * (intRp .u8).n = off + j from by show off + j * 1 = _; omega] at r1
          exact ops_number F w' _ _ _ _ r1 (by rw [List.length_drop]; omega) (by rw [List.length_drop]; omega) (fun x hx => hbd x (List.mem_of_mem_drop hx))
        have hopD : (⟨x, numOf 8 (D.drop 1), numOf 8 (D.drop 9), numOf 8 (D.drop 17)⟩ : OpV) = opOf D := by rw [hx]; rfl
        have hopW := opOf_wf D hbd
        rw [← hopD] at hopW hgt
        have hxb : 0 ≤ x ∧ x ≤ 255 := by
          rw [hx]
          cases hDD : D with
          | nil => simp
          | cons y D' => simpa using hbd y (by rw [hDD]; simp)
        have Wx : IntKind.i64.wrap x = x := IntWalk.i64_in _ (by omega)
        clear hopD
        have i0 : (0 : Int) < (n : Int) := by omega
        have hnc : n ≤ c' := by have := hr.le; omega
        have hn25 : 25 ≤ n := by omega
        have hn0 : 0 < n := by omega
        have z1 : ¬ c' = 1 := by omega
        have z9 : ¬ c' = 9 := by omega
        have z17 : ¬ c' = 17 := by omega
        have z25 : ¬ c' = 25 ∨ c' = 25 := by omega
        have i1 : (1 : Int) ≤ (n : Int) := by omega
        have i9 : (9 : Int) ≤ (n : Int) := by omega
        have i17 : (17 : Int) ≤ (n : Int) := by omega
        have inc : (n : Int) ≤ (c' : Int) := by omega
        have hS : ∀ w', Ch No w w' → w'.cell? ⟨b, off, none⟩ = some (.int .u8 x) ∧ Ch No w w' := by
          intro w' hc'
          obtain ⟨b2, off2, hq, _, _, c2, _⟩ := (hr.ch0 hc').int_at 0 (by omega)
          cases hq
          exact ⟨by simpa [List.getD_eq_getElem?_getD, hx, show 0 < D.length by omega] using c2, hc'⟩
        have hH := hS _ hc.drew
        have k1 := kN 1 (by omega)
        have k9 := kN 9 (by omega)
        have k17 := kN 17 (by omega)
        clear kN
        obtain ⟨n1, f1⟩ : ∃ z, z = numOf 8 (D.drop 1) := ⟨_, rfl⟩
        obtain ⟨n9, f9⟩ : ∃ z, z = numOf 8 (D.drop 9) := ⟨_, rfl⟩
        obtain ⟨n17, f17⟩ : ∃ z, z = numOf 8 (D.drop 17) := ⟨_, rfl⟩
        simp only [← f1, ← f9, ← f17] at k1 k9 k17 hopW hgt
        clear f1 f9 f17
        have hkb : k < 100000 := by omega
        have HN := Lib.hid hn; have HD := Lib.hid hD; have HX := Lib.hid hx; have HL := Lib.hid hl25; have HGL := Lib.hid hgl; have HGT := Lib.hid hgt; have HDL := Lib.hid hdl
        clear hn hD hx hl25 hgl hgt hdl h
        go_region_held3 (fun w' : World => w'.cell? ⟨b, off, none⟩ = some (.int .u8 x) ∧ Ch No w w') (first | assumption | exact hS _ (by assumption) | exact hS _ (Ch.alloc (And.right (by assumption)) _) | fail) (first
          | (go_at_call 43; with_reducible refine (k1 _ (And.right (by assumption))).mono ?_; rintro e w9 ⟨rfl, rfl⟩; (try dsimp only))
          | (go_at_call 43; with_reducible refine (k9 _ (And.right (by assumption))).mono ?_; rintro e w9 ⟨rfl, rfl⟩; (try dsimp only))
          | (go_at_call 43; with_reducible refine (k17 _ (And.right (by assumption))).mono ?_; rintro e w9 ⟨rfl, rfl⟩; (try dsimp only))
          | (refine step_push_drew (by rfl) _ _ _ (by rfl) w.heap.size 92 (.agg #[.int .i64 0, .int .u64 0, .int .u64 0, .int .u64 0]) 4 32 Try.underlying46 infoOp rfl (by decide) opRp rfl F u4 (getN k l) (by rfl) (ho.ch0 (Ch.refl _ _).drew) [.int .i64 x, .int .u64 n1, .int .u64 n9, .int .u64 n17] _ ⟨x, n1, n9, n17⟩ 1 (by rfl) ⟨rfl, hopW⟩ hF (by rw [HGL.out]; omega) (by rw [HGL.out]; omega) hc.size ?_; intro v9 w9 hO9 hC9 _; have hW9 := hC9 No w (Nat.le_refl _) hc.drew)
          | fail)
        go_wp2_with fail
        go_roundw
        case rel =>
          have HL' := HL.out; have HN' := HN.out
          refine ⟨k + 1, (if c' = 25 then some ⟨b, off, none⟩ else some ⟨b, off + 25, none⟩), c' - 25, by omega, ?_, ?_, by rw [HGT.out]; exact hO9, hW9⟩
          · rw [show 25 * (K - (k + 1)) = n - 25 by omega]
          · by_cases hcc : c' = 25
            · rw [if_pos hcc]
              have hnil : l.drop (25 * (k + 1)) = [] := List.drop_eq_nil_of_le (by omega)
              rw [hnil]
              exact ⟨Nat.zero_le _, by have := hr.max; omega, fun q => (by cases q), fun q => absurd rfl q⟩
            · rw [if_neg hcc]
              have r25 := hr.drop 25 (by rw [HDL.out]; omega)
              rw [HD.out, List.drop_drop] at r25
              exact r25
        case measure => 
          show n - 25 < n
          omega
      · obtain rfl : k = K := by omega
        have hd : decide ((25 * (k - k) : Nat) > (0 : Int)) = false := decide_eq_false (by omega)
        go_wp2_with fail
        go_ret2
        exact ⟨_, rfl, ho, hc⟩
  · have e1 : ((l.length : Int) % 25 != 0) = true := by simp; omega
    unfold getE getL
    rw [if_neg h25, if_neg h25]
    go_enter Try.func23, Try.ntmps23
    go_wp2_with fail
    go_ret2
    exact ⟨_, rfl, OwnR.nilR _ _ _ _ _, Ch.refl _ _⟩
end Go.Proofs.Ytlmaflhfedbmdaa

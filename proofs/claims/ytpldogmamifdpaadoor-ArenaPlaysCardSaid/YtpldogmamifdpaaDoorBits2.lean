/- Package bits: fits, Next, Whole, Count. -/
import Derived.Test.YtpldogmamifdpaaDoorBits
import Derived.Lib.MinMax
set_option linter.unusedVariables false
set_option linter.unusedSimpArgs false
namespace Go.Proofs.YtpldogmamifdpaaDoor
open Go Go.RowKit

/-- A run's places are there. -/
def fitsB (n : Nat) (a b : Int) : Prop := 0 ≤ a ∧ 0 ≤ b ∧ a ≤ n ∧ b ≤ n - a
instance (n : Nat) (a b : Int) : Decidable (fitsB n a b) := by unfold fitsB; infer_instance

set_option maxRecDepth 100000 in
set_option maxHeartbeats 2000000 in
theorem bits_fits (w : World) (p g : Nat) (x : List Bool) (a b : Int) (h : RowAt w p g x) (ha : I64 a) (hb : I64 b) :
    Calls Tryd.prog 61 #[.pointer (some ⟨p, 0, none⟩), .agg #[.int .i64 a, .int .i64 b]] w fun e w' => e = .returned (.bool (decide (fitsB x.length a b))) ∧ Ch No w w' := by
  have ha' := ha.bd
  have hb' := hb.bd
  have hle := h.le
  have c1 : (w.alloc (.cells #[.int .i64 a, .int .i64 b] 37)).cell? ⟨p, 1, none⟩ = some (.int .i64 x.length) := cellOf (h.ch0 ((Ch.refl No w).alloc _)).head 1 rfl
  have d0 : (w.alloc (.cells #[.int .i64 a, .int .i64 b] 37)).cell? ⟨w.heap.size, 0, none⟩ = some (.int .i64 a) := by simp
  have d1 : (w.alloc (.cells #[.int .i64 a, .int .i64 b] 37)).cell? ⟨w.heap.size, 1, none⟩ = some (.int .i64 b) := by simp
  obtain ⟨n, hn⟩ : ∃ n, n = x.length := ⟨_, rfl⟩
  rw [← hn] at c1 hle ⊢
  clear hn
  have hfin : ∀ k, Ch No w ((w.alloc (.cells #[.int .i64 a, .int .i64 b] 37)).drewN k) := fun k => ((Ch.refl _ _).alloc _).drewN k
  by_cases h1 : a < 0
  · have e : decide (fitsB n a b) = false := decide_eq_false (by unfold fitsB; omega)
    have b1 : decide (a ≥ 0) = false := decide_eq_false (by omega)
    rw [e]; clear e h1 ha' hb' h
    go_enter Tryd.func61, Tryd.ntmps61
    go_wp2_with fail
    go_quiet (fail)
    go_wp2_with fail
    go_ret
    exact ⟨rfl, hfin _⟩
  · have b1 : decide (a ≥ 0) = true := decide_eq_true (by omega)
    by_cases h2 : b < 0
    · have e : decide (fitsB n a b) = false := decide_eq_false (by unfold fitsB; omega)
      have b2 : decide (b ≥ 0) = false := decide_eq_false (by omega)
      rw [e]; clear e h1 h2 ha' hb' h
      go_enter Tryd.func61, Tryd.ntmps61
      go_wp2_with fail
      go_quiet (fail)
      go_wp2_with fail
      go_ret
      exact ⟨rfl, hfin _⟩
    · have b2 : decide (b ≥ 0) = true := decide_eq_true (by omega)
      by_cases h3 : a ≤ n
      · have b3 : decide (a ≤ (n : Int)) = true := decide_eq_true h3
        have W1 : IntKind.i64.wrap ((n : Int) - a) = n - a := IntWalk.i64_in _ (by omega)
        by_cases h4 : b ≤ n - a
        · have e : decide (fitsB n a b) = true := decide_eq_true (by unfold fitsB; omega)
          have b4 : decide (b ≤ (n : Int) - a) = true := decide_eq_true h4
          rw [e]; clear e h1 h2 h4 h
          go_enter Tryd.func61, Tryd.ntmps61
          go_wp2_with fail
          go_quiet (fail)
          go_wp2_with fail
          go_ret
          exact ⟨rfl, hfin _⟩
        · have e : decide (fitsB n a b) = false := decide_eq_false (by unfold fitsB; omega)
          have b4 : decide (b ≤ (n : Int) - a) = false := decide_eq_false h4
          rw [e]; clear e h1 h2 h4 h
          go_enter Tryd.func61, Tryd.ntmps61
          go_wp2_with fail
          go_quiet (fail)
          go_wp2_with fail
          go_ret
          exact ⟨rfl, hfin _⟩
      · have e : decide (fitsB n a b) = false := decide_eq_false (by unfold fitsB; omega)
        have b3 : decide (a ≤ (n : Int)) = false := decide_eq_false h3
        rw [e]; clear e h1 h2 h3 h
        go_enter Tryd.func61, Tryd.ntmps61
        go_wp2_with fail
        go_quiet (fail)
        go_wp2_with fail
        go_ret
        exact ⟨rfl, hfin _⟩

theorem i64_and_nat (a b : Nat) (ha : a < 9223372036854775808) (hb : b < 9223372036854775808) : bits .and .i64 (a : Int) (b : Int) = ((a &&& b : Nat) : Int) := by
  have hx : a &&& b ≤ a := Nat.and_le_left
  show IntKind.i64.wrap ((BitVec.ofInt 64 (a : Int) &&& BitVec.ofInt 64 (b : Int)).toNat : Int) = _
  rw [BitVec.toNat_and, ofInt_u64 a (by omega), ofInt_u64 b (by omega)]
  exact IntWalk.i64_in _ (by omega)
theorem u64w (n : Nat) (h : n < 18446744073709551616) : IntKind.u64.wrap (n : Int) = (n : Int) := by rw [IntKind.wrap_u64]; omega

set_option maxHeartbeats 1000000 in
theorem ones64 (w : World) (x : Nat) (hx : x < 18446744073709551616) :
    Calls Tryd.prog 54 #[.int .u64 x] w fun e w' => e = .returned (.int .i64 (pop 64 x)) ∧ w = w' := by
  rw [← swar_pop x hx]
  have M1v : M1 = 6148914691236517205 := rfl
  have M2v : M2 = 3689348814741910323 := rfl
  have M4v : M4 = 1085102592571150095 := rfl
  have l1 : x / 2 &&& M1 ≤ M1 := Nat.and_le_right
  have l2 : x &&& M1 ≤ M1 := Nat.and_le_right
  have E1 := u64_and_nat (x / 2) M1 (by omega) (by omega)
  have E2 := u64_and_nat x M1 hx (by omega)
  rw [show (((x / 2 : Nat)) : Int) = (x : Int) / 2 by simp, show ((M1 : Nat) : Int) = 6148914691236517205 by rw [M1v]; rfl] at E1
  rw [show ((M1 : Nat) : Int) = 6148914691236517205 by rw [M1v]; rfl] at E2
  obtain ⟨a, ha⟩ : ∃ a, a = (x / 2 &&& M1) + (x &&& M1) := ⟨_, rfl⟩
  have S1 : IntKind.u64.wrap (((x / 2 &&& M1 : Nat) : Int) + ((x &&& M1 : Nat) : Int)) = (a : Int) := by
    rw [ha, ← Int.natCast_add]; exact u64w _ (by omega)
  have l3 : a / 4 &&& M2 ≤ M2 := Nat.and_le_right
  have l4 : a &&& M2 ≤ M2 := Nat.and_le_right
  have E3 := u64_and_nat (a / 4) M2 (by omega) (by omega)
  have E4 := u64_and_nat a M2 (by omega) (by omega)
  rw [show (((a / 4 : Nat)) : Int) = (a : Int) / 4 by simp, show ((M2 : Nat) : Int) = 3689348814741910323 by rw [M2v]; rfl] at E3
  rw [show ((M2 : Nat) : Int) = 3689348814741910323 by rw [M2v]; rfl] at E4
  obtain ⟨b, hb⟩ : ∃ b, b = (a / 4 &&& M2) + (a &&& M2) := ⟨_, rfl⟩
  have S2 : IntKind.u64.wrap (((a / 4 &&& M2 : Nat) : Int) + ((a &&& M2 : Nat) : Int)) = (b : Int) := by
    rw [hb, ← Int.natCast_add]; exact u64w _ (by omega)
  obtain ⟨t, ht⟩ : ∃ t, t = b / 16 + b := ⟨_, rfl⟩
  have S3 : IntKind.u64.wrap ((b : Int) / 16 + (b : Int)) = (t : Int) := by
    rw [ht, show (b : Int) / 16 + (b : Int) = ((b / 16 + b : Nat) : Int) by simp]; exact u64w _ (by omega)
  have l5 : t &&& M4 ≤ M4 := Nat.and_le_right
  have E5 := u64_and_nat t M4 (by omega) (by omega)
  rw [show ((M4 : Nat) : Int) = 1085102592571150095 by rw [M4v]; rfl] at E5
  obtain ⟨c, hc⟩ : ∃ c, c = t &&& M4 := ⟨_, rfl⟩
  rw [← hc] at E5 l5
  obtain ⟨d, hd⟩ : ∃ d, d = c + c / 256 := ⟨_, rfl⟩
  have S4 : IntKind.u64.wrap ((c : Int) + (c : Int) / 256) = (d : Int) := by
    rw [hd, show (c : Int) + (c : Int) / 256 = ((c + c / 256 : Nat) : Int) by simp]; exact u64w _ (by omega)
  obtain ⟨e, he⟩ : ∃ e, e = d + d / 65536 := ⟨_, rfl⟩
  have S5 : IntKind.u64.wrap ((d : Int) + (d : Int) / 65536) = (e : Int) := by
    rw [he, show (d : Int) + (d : Int) / 65536 = ((d + d / 65536 : Nat) : Int) by simp]; exact u64w _ (by omega)
  obtain ⟨f, hf⟩ : ∃ f, f = e + e / 4294967296 := ⟨_, rfl⟩
  have S6 : IntKind.u64.wrap ((e : Int) + (e : Int) / 4294967296) = (f : Int) := by
    rw [hf, show (e : Int) + (e : Int) / 4294967296 = ((e + e / 4294967296 : Nat) : Int) by simp]; exact u64w _ (by omega)
  have hf63 : f < 9223372036854775808 := by omega
  have S7 : IntKind.i64.wrap (f : Int) = (f : Int) := IntWalk.i64_in _ (by omega)
  have E6 := i64_and_nat f 127 hf63 (by omega)
  rw [show ((127 : Nat) : Int) = 127 from rfl, nat_mask7] at E6
  have hsw : swar x = f % 128 := by
    unfold swar
    simp only
    rw [← ha, ← hb, ← ht, ← hc, ← hd, ← he, ← hf]
  rw [hsw]
  have HA := Lib.hid ha; have HB := Lib.hid hb; have HT := Lib.hid ht; have HC := Lib.hid hc; have HD := Lib.hid hd; have HE := Lib.hid he; have HF := Lib.hid hf
  clear ha hb ht hc hd he hf hsw l1 l2 l3 l4 l5 M1v M2v M4v
  go_enter Tryd.func54, Tryd.ntmps54
  go_wp2_with fail
  go_ret
  exact ⟨rfl, rfl⟩

/-- How many are marked. -/
def cntTo (x : List Bool) (m : Nat) : Nat := popB (fun i => x.getD i false) m
theorem getD_out (x : List Bool) (i : Nat) (h : x.length ≤ i) : x.getD i false = false := by simp [List.getD_eq_getElem?_getD, List.getElem?_eq_none h]

theorem bits_Count (w : World) (p g : Nat) (x : List Bool) (h : RowAt w p g x) :
    Calls Tryd.prog 40 #[.pointer (some ⟨p, 0, none⟩)] w fun e w' => e = .returned (.int .i64 (cntTo x x.length)) ∧ w = w' := by
  have hle := h.le
  have c0 : w.cell? ⟨p, 0, none⟩ = some (.slice (some ⟨g, 0, none⟩) ((x.length + 63) / 64) ((x.length + 63) / 64)) := cellOf h.head 0 rfl
  obtain ⟨L, hL⟩ : ∃ L, L = (x.length + 63) / 64 := ⟨_, rfl⟩
  have hlen := wordsOf_length x
  rw [← hL] at hlen c0
  have HL := Lib.hid hL
  have hL2 : L ≤ 256 := by omega
  have hlast : cntTo x (64 * L) = cntTo x x.length := popB_none _ x.length (64 * L) (by omega) (fun i hi => getD_out x i hi)
  clear hL
  go_enter Tryd.func40, Tryd.ntmps40
  go_wp2_with fail
  go_loopw [3, 11] (fun t i wr => ∃ k : Nat, k ≤ L ∧ i = .int .i64 k ∧ t = .int .i64 (cntTo x (64 * k) : Nat) ∧ w = wr) (fun _ i _ => L - (intOf i).toNat)
  case atStart => exact ⟨0, by omega, rfl, rfl, rfl⟩
  case round =>
    obtain ⟨k, hk, rfl, rfl, rfl⟩ := hrel
    by_cases hlt : k < L
    · have hcell : w.cell? ⟨g, k, none⟩ = some (.int .u64 (wordAt x k)) := by
        refine cellOf h.row k ?_
        rw [ints_get .u64 (wordsOf x) k (by omega), wordsOf_get]
      have h1 := ones64 w (wordAt x k) (wordAt_lt x k)
      have e1 : pop 64 (wordAt x k) = popB (fun j => x.getD (64 * k + j) false) 64 := pop_ofB _ 64
      have e2 : cntTo x (64 * (k + 1)) = cntTo x (64 * k) + pop 64 (wordAt x k) := by
        rw [e1]
        unfold cntTo
        rw [show 64 * (k + 1) = 64 * k + 64 by omega, popB_add]
      have hb1 : cntTo x (64 * k) ≤ 64 * k := popB_le _ _
      have hb2 : pop 64 (wordAt x k) ≤ 64 := by rw [e1]; exact popB_le _ _
      obtain ⟨T, hT⟩ : ∃ T, T = cntTo x (64 * k) := ⟨_, rfl⟩
      obtain ⟨P, hP⟩ : ∃ P, P = pop 64 (wordAt x k) := ⟨_, rfl⟩
      obtain ⟨W, hW⟩ : ∃ W, W = wordAt x k := ⟨_, rfl⟩
      rw [← hP] at e2 hb2 h1
      rw [← hW] at hcell h1
      simp only [← hT] at e2 hb1 ⊢
      have E2 := Lib.hid e2
      clear e1 e2 hT hP hW
      go_wp2_with fail
      with_reducible refine h1.mono ?_
      rintro e w1 ⟨rfl, rfl⟩
      dsimp only
      go_wp2_with fail
      go_roundw
      case rel => exact ⟨k + 1, by omega, by go_num, by rw [E2.out]; go_num, trivial⟩
      case measure => exact meas_lt (by omega)
    · obtain rfl : k = L := by omega
      go_wp2_with fail
      go_ret
      exact ⟨by rw [← hlast]; rfl, rfl⟩

/-- The first marked place from one on. -/
def IsNext (x : List Bool) (f : Int) : Option Nat → Prop
  | some j => f ≤ j ∧ j < x.length ∧ x.getD j false = true ∧ ∀ i : Nat, f ≤ i → i < j → x.getD i false = false
  | none => ∀ i : Nat, f ≤ i → x.getD i false = false
theorem IsNext.uniq {x : List Bool} {f : Int} : ∀ {r r' : Option Nat}, IsNext x f r → IsNext x f r' → r = r'
  | none, none, _, _ => rfl
  | some j, none, h, h' => by
    have := h' j h.1
    rw [h.2.2.1] at this
    cases this
  | none, some j, h', h => by
    have := h' j h.1
    rw [h.2.2.1] at this
    cases this
  | some j, some j', h, h' => by
    rcases Nat.lt_trichotomy j j' with q | q | q
    · have := h'.2.2.2 j h.1 q
      rw [h.2.2.1] at this
      cases this
    · rw [q]
    · have := h.2.2.2 j' h'.1 q
      rw [h'.2.2.1] at this
      cases this
def optV : Option Nat → Value
  | some j => .tuple #[.int .i64 j, .bool true]
  | none => .tuple #[.int .i64 0, .bool false]
theorem getB_nat (x : List Bool) (k : Nat) : getB x (k : Int) = x.getD k false := by
  unfold getB
  rw [Int.toNat_natCast]
  by_cases h : k < x.length
  · rw [decide_eq_true (by omega), Bool.true_and]
  · rw [decide_eq_false (by omega), Bool.false_and, getD_out x k (by omega)]

/-- Are all of some places alike? -/
def wholeB (x : List Bool) (a b : Int) (on : Bool) : Bool := decide (fitsB x.length a b) && (List.range b.toNat).all fun j => x.getD (a.toNat + j) false == on

set_option maxRecDepth 100000 in
set_option maxHeartbeats 1000000 in
theorem bits_Whole (w : World) (p g : Nat) (x : List Bool) (a b : Int) (on : Bool) (h : RowAt w p g x) (ha : I64 a) (hb : I64 b) :
    Calls Tryd.prog 51 #[.pointer (some ⟨p, 0, none⟩), .agg #[.int .i64 a, .int .i64 b], .bool on] w fun e w' => e = .returned (.bool (wholeB x a b on)) ∧ Ch No w w' := by
  have hle := h.le
  have hfit := bits_fits (w.alloc (.cells #[.int .i64 a, .int .i64 b] 37)) p g x a b (h.ch0 ((Ch.refl No w).alloc _)) ha hb
  have hal : Ch No w (w.alloc (.cells #[.int .i64 a, .int .i64 b] 37)) := (Ch.refl _ _).alloc _
  have d0 : (w.alloc (.cells #[.int .i64 a, .int .i64 b] 37)).cell? ⟨w.heap.size, 0, none⟩ = some (.int .i64 a) := by simp
  have d1 : (w.alloc (.cells #[.int .i64 a, .int .i64 b] 37)).cell? ⟨w.heap.size, 1, none⟩ = some (.int .i64 b) := by simp
  unfold wholeB
  by_cases hf : fitsB x.length a b
  · rw [decide_eq_true hf] at hfit ⊢
    rw [Bool.true_and]
    have hf2 := hf
    unfold fitsB at hf2
    obtain ⟨A, rfl⟩ : ∃ A : Nat, a = A := ⟨a.toNat, by omega⟩
    obtain ⟨B, rfl⟩ : ∃ B : Nat, b = B := ⟨b.toNat, by omega⟩
    simp only [Int.toNat_natCast]
    have hAB : A + B ≤ x.length := by omega
    have W1 : IntKind.i64.wrap ((A : Int) + (B : Int)) = ((A + B : Nat) : Int) := by rw [IntWalk.i64_in _ (by omega)]; omega
    have hall : ∀ m, (∀ j, j < m → x.getD (A + j) false = on) → ((List.range m).all fun j => x.getD (A + j) false == on) = true := by
      intro m hm
      rw [List.all_eq_true]
      intro j hj
      rw [hm j (List.mem_range.1 hj)]
      simp
    have hnot : ∀ j, j < B → x.getD (A + j) false ≠ on → ((List.range B).all fun j => x.getD (A + j) false == on) = false := by
      intro j hj hne
      rw [List.all_eq_false]
      exact ⟨j, List.mem_range.2 hj, by simpa using hne⟩
    obtain ⟨R, hR⟩ : ∃ R, R = (List.range B).all fun j => x.getD (A + j) false == on := ⟨_, rfl⟩
    have HALL := hall B
    rw [← hR] at HALL hnot ⊢
    have HN := Lib.hid hnot; have HAA := Lib.hid HALL
    clear hf hf2 hall hR hnot HALL
    cases on
    · go_enter Tryd.func51, Tryd.ntmps51
      go_wp2_with fail
      with_reducible refine hfit.mono ?_
      rintro e w1 ⟨rfl, hc1⟩
      have e0 := hc1.cell d0 (fun q => q)
      have e1 := hc1.cell d1 (fun q => q)
      dsimp only
      go_wp2_with fail
      go_loopw [7] (fun i wr => ∃ k : Nat, k ≤ B ∧ i = .int .i64 (A + k : Nat) ∧ (∀ j, j < k → x.getD (A + j) false = false) ∧ w1 = wr) (fun i _ => A + B - (intOf i).toNat)
      case atStart => exact ⟨0, by omega, rfl, fun j hj => absurd hj (by omega), rfl⟩
      case round =>
        obtain ⟨k, hk, rfl, hk2, rfl⟩ := hrel
        have HK := Lib.hid hk2; clear hk2
        by_cases hlt : k < B
        · have hb1 : decide (((A + k : Nat) : Int) < (A : Int) + (B : Int)) = true := decide_eq_true (by omega)
          have hhas := bits_Has w1 p g x ((A + k : Nat) : Int) ((h.ch0 hal).ch0 hc1) (show _ ∧ _ from by omega)
          rw [getB_nat] at hhas
          obtain ⟨q, hq⟩ : ∃ q, q = A + k := ⟨_, rfl⟩
          rw [← hq] at hhas hb1 ⊢
          have hqb : q < 20000 := by omega
          have HQ := Lib.hid hq; clear hq
          cases hm : x.getD q false with
          | false =>
            rw [hm] at hhas
            have HM := Lib.hid hm; clear hm
            go_wp2_with fail
            with_reducible refine hhas.mono ?_
            rintro e w2 ⟨rfl, rfl⟩
            dsimp only
            go_wp2_with fail
            go_roundw
            case rel =>
              refine ⟨k + 1, by omega, by have := HQ.out; rw [this]; go_num, fun j h1 => ?_, trivial⟩
              by_cases hj : j = k
              · rw [hj, ← HQ.out]; exact HM.out
              · exact HK.out j (by omega)
            case measure =>
              have := HQ.out
              exact meas_lt (by omega)
          | true =>
            rw [hm] at hhas
            have HM := Lib.hid hm; clear hm
            go_wp2_with fail
            with_reducible refine hhas.mono ?_
            rintro e w2 ⟨rfl, rfl⟩
            dsimp only
            go_wp2_with fail
            go_ret
            exact ⟨by rw [HN.out k hlt (by rw [← HQ.out, HM.out]; decide)]; rfl, hal.trans hc1⟩
        · obtain rfl : k = B := by omega
          have hb1 : decide (((A + k : Nat) : Int) < (A : Int) + (k : Int)) = false := decide_eq_false (by omega)
          go_wp2_with fail
          go_ret
          exact ⟨by rw [HAA.out HK.out]; rfl, hal.trans hc1⟩
    · go_enter Tryd.func51, Tryd.ntmps51
      go_wp2_with fail
      with_reducible refine hfit.mono ?_
      rintro e w1 ⟨rfl, hc1⟩
      have e0 := hc1.cell d0 (fun q => q)
      have e1 := hc1.cell d1 (fun q => q)
      dsimp only
      go_wp2_with fail
      go_loopw [7] (fun i wr => ∃ k : Nat, k ≤ B ∧ i = .int .i64 (A + k : Nat) ∧ (∀ j, j < k → x.getD (A + j) false = true) ∧ w1 = wr) (fun i _ => A + B - (intOf i).toNat)
      case atStart => exact ⟨0, by omega, rfl, fun j hj => absurd hj (by omega), rfl⟩
      case round =>
        obtain ⟨k, hk, rfl, hk2, rfl⟩ := hrel
        have HK := Lib.hid hk2; clear hk2
        by_cases hlt : k < B
        · have hb1 : decide (((A + k : Nat) : Int) < (A : Int) + (B : Int)) = true := decide_eq_true (by omega)
          have hhas := bits_Has w1 p g x ((A + k : Nat) : Int) ((h.ch0 hal).ch0 hc1) (show _ ∧ _ from by omega)
          rw [getB_nat] at hhas
          obtain ⟨q, hq⟩ : ∃ q, q = A + k := ⟨_, rfl⟩
          rw [← hq] at hhas hb1 ⊢
          have hqb : q < 20000 := by omega
          have HQ := Lib.hid hq; clear hq
          cases hm : x.getD q false with
          | true =>
            rw [hm] at hhas
            have HM := Lib.hid hm; clear hm
            go_wp2_with fail
            with_reducible refine hhas.mono ?_
            rintro e w2 ⟨rfl, rfl⟩
            dsimp only
            go_wp2_with fail
            go_roundw
            case rel =>
              refine ⟨k + 1, by omega, by have := HQ.out; rw [this]; go_num, fun j h1 => ?_, trivial⟩
              by_cases hj : j = k
              · rw [hj, ← HQ.out]; exact HM.out
              · exact HK.out j (by omega)
            case measure =>
              have := HQ.out
              exact meas_lt (by omega)
          | false =>
            rw [hm] at hhas
            have HM := Lib.hid hm; clear hm
            go_wp2_with fail
            with_reducible refine hhas.mono ?_
            rintro e w2 ⟨rfl, rfl⟩
            dsimp only
            go_wp2_with fail
            go_ret
            exact ⟨by rw [HN.out k hlt (by rw [← HQ.out, HM.out]; decide)]; rfl, hal.trans hc1⟩
        · obtain rfl : k = B := by omega
          have hb1 : decide (((A + k : Nat) : Int) < (A : Int) + (k : Int)) = false := decide_eq_false (by omega)
          go_wp2_with fail
          go_ret
          exact ⟨by rw [HAA.out HK.out]; rfl, hal.trans hc1⟩
  · rw [decide_eq_false hf] at hfit ⊢
    rw [Bool.false_and]
    clear hf
    go_enter Tryd.func51, Tryd.ntmps51
    go_wp2_with fail
    with_reducible refine hfit.mono ?_
    rintro e w1 ⟨rfl, hc1⟩
    dsimp only
    go_wp2_with fail
    go_ret
    exact ⟨rfl, hal.trans hc1⟩
end Go.Proofs.YtpldogmamifdpaaDoor

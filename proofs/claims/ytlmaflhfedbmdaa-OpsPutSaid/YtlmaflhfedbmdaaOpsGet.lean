/- Package ops and its reference: reading bytes. -/
import Derived.Test.YtlmaflhfedbmdaaOpsPut
import Derived.Laws.BitsAllLaws
set_option linter.unusedVariables false
set_option linter.unusedSimpArgs false
namespace Go.Proofs.Ytlmaflhfedbmdaa
open Go Go.RowKit

theorem SlR.drop {α : Type} {e : Rp α} {F : Nat → Prop} {w : World} {b off c : Nat} {l : List α} (h : SlR e F w (some ⟨b, off, none⟩) c l) (k : Nat) (hk : k ≤ l.length) : SlR e F w (some ⟨b, off + k * e.n, none⟩) (c - k) (l.drop k) := by
  have h1 := h.le
  have h2 := h.max
  refine ⟨by rw [List.length_drop]; omega, by omega, fun q => (by cases q), fun hl => ?_⟩
  have hl' : k < l.length := by
    rcases Nat.lt_or_ge k l.length with q | q
    · exact q
    · exact absurd (List.drop_eq_nil_of_le q) hl
  obtain ⟨b', off', ha, hb, hlt, hr⟩ := h.rd (by intro e; rw [e] at hl'; simp at hl')
  cases ha
  refine ⟨b, _, rfl, hb, hlt, fun i hi => ?_⟩
  rw [List.length_drop] at hi
  have := hr (k + i) (by omega)
  rw [Nat.add_mul, ← Nat.add_assoc] at this
  rw [List.getElem_drop]
  exact this

theorem pow_le8 (k : Nat) (hk : k < 8) : (256 : Int) ^ k * 256 ≤ 18446744073709551616 := by
  have : k = 0 ∨ k = 1 ∨ k = 2 ∨ k = 3 ∨ k = 4 ∨ k = 5 ∨ k = 6 ∨ k = 7 := by omega
  rcases this with h | h | h | h | h | h | h | h <;> subst h <;> decide
theorem or_byte (k : Nat) (hk : k < 8) (x b : Int) (h0 : 0 ≤ x) (h1 : x < 256 ^ k) (b0 : 0 ≤ b) (b1 : b ≤ 255) :
    bits BinOp.or IntKind.u64 x (IntKind.u64.wrap (IntKind.u64.wrap b * 2 ^ (8 * k))) = x + b * 256 ^ k := by
  have e : (2 : Int) ^ (8 * k) = 256 ^ k := by rw [Int.pow_mul]; rfl
  have hw : ∀ z : Int, IntKind.u64.wrap z = z % 18446744073709551616 := fun z => by simp [IntKind.wrap, IntKind.bits, IntKind.signed]
  have hp := pow_le8 k hk
  have hpos : (0 : Int) < 256 ^ k := Int.pow_pos (by omega)
  obtain ⟨P, hP⟩ : ∃ P : Nat, (P : Int) = 256 ^ k := ⟨(256 : Int).toNat ^ k, by simp⟩
  have hP2 : P = 2 ^ (8 * k) := by have : (P : Int) = ((2 ^ (8 * k) : Nat) : Int) := by rw [hP, ← e]; simp
                                   omega
  rw [hw, hw, e, ← hP]
  rw [← hP] at hpos h1 hp
  have hbm : b * (P : Int) ≤ 255 * P := Int.mul_le_mul_of_nonneg_right b1 (by omega)
  have hbn : 0 ≤ b * (P : Int) := Int.mul_nonneg b0 (by omega)
  rw [Int.emod_eq_of_lt b0 (by omega), Int.emod_eq_of_lt hbn (by omega), u64_or _ _ h0 (by omega) hbn (by omega), Nat.or_comm]
  have hm : (b * (P : Int)).toNat = b.toNat * P := by rw [Int.toNat_mul b0 (by omega)]; simp
  rw [nat_join (8 * k) _ _ (by rw [hm, hP2]; exact Nat.mul_mod_left _ _) (by rw [← hP2]; omega)]
  omega

set_option maxRecDepth 100000 in
theorem ops_number (F : Nat → Prop) (w : World) (a : Option Addr) (c : Nat) (l : List Int) (n : Nat) (h : SlR (intRp .u8) F w a c l) (hn : n = l.length) (hl : 8 ≤ l.length) (hbytes : ∀ x ∈ l, 0 ≤ x ∧ x ≤ 255) :
    Calls Try.prog 43 #[.slice a n c] w fun e w' => e = .returned (.int .u64 (numOf 8 l)) ∧ w = w' := by
  subst hn
  go_enter Try.func43, Try.ntmps43
  go_wp2_with fail
  go_loopw [3, 5] (fun q i wr => ∃ k : Nat, k ≤ 8 ∧ i = .int .i64 k ∧ q = .int .u64 (numOf k l) ∧ w = wr) (fun _ i _ => 8 - (intOf i).toNat)
  case atStart => exact ⟨0, by omega, rfl, by simp [numOf], rfl⟩
  case round =>
    obtain ⟨k, hk, rfl, rfl, rfl⟩ := hrel
    by_cases hlt : k < 8
    · obtain ⟨b, off, rfl, _, _, c1, hb⟩ := h.int_at k (by omega)
      have hk2 : (k : Int) < (l.length : Int) := by omega
      go_wp2_with fail
      have hr := numOf_range k l hbytes
      have e := or_byte k hlt (numOf k l) l[k] hr.1 hr.2 hb.1 hb.2
      refine ⟨⟨k + 1, by omega, by go_num, ?_, trivial⟩, meas_lt (by omega)⟩
      rw [e, numOf_succ k l (by omega)]
    · obtain rfl : k = 8 := by omega
      go_wp2_with fail
      go_ret
      exact ⟨rfl, rfl⟩

theorem chr_at (l : List Int) (i : Nat) (hi : i < l.length) (hb : 0 ≤ l[i] ∧ l[i] ≤ 255) (h2 : i < (strOfNums l).size) : (((strOfNums l)[i]).toNat : Int) = l[i] := by
  show ((((strOfNums l).data[i]'h2).toNat : Nat) : Int) = _
  simp only [strOfNums, List.getElem_toArray, List.getElem_map, UInt8.toNat_ofNat']
  omega

/-- The reference's: from behind. -/
theorem numOf_drop (l : List Int) (j : Nat) (hj : j < l.length) (k : Nat) : numOf (k + 1) (l.drop j) = l[j] + 256 * numOf k (l.drop (j + 1)) := by
  rw [List.drop_eq_getElem_cons hj]
  rfl

set_option maxRecDepth 100000 in
theorem ref21_read (w : World) (l : List Int) (at_ : Nat) (hb : ∀ x ∈ l, 0 ≤ x ∧ x ≤ 255) (hl : at_ + 8 ≤ l.length) (hm : l.length ≤ 100000) :
    Calls Try.prog 44 #[str l, .int .i64 at_] w fun e w' => e = .returned (.int .u64 (numOf 8 (l.drop at_))) ∧ w = w' := by
  go_enter Try.func44, Try.ntmps44
  go_wp2_with fail
  go_loopw [5, 6] (fun q i wr => ∃ k : Nat, k ≤ 8 ∧ i = .int .i64 (7 - (k : Int)) ∧ q = .int .u64 (numOf k (l.drop (at_ + (8 - k)))) ∧ w = wr) (fun _ i _ => (intOf i + 1).toNat)
  case atStart => exact ⟨0, by omega, rfl, by simp [numOf], rfl⟩
  case round =>
    obtain ⟨k, hk, rfl, rfl, rfl⟩ := hrel
    by_cases hlt : k < 8
    · have hd : decide (7 - (k : Int) ≥ 0) = true := decide_eq_true (by omega)
      have hi : at_ + (7 - k) < l.length := by omega
      have hsz : (strOfNums l).size = l.length := strOfNums_size l
      have W1 : IntKind.i64.wrap ((at_ : Int) + (7 - (k : Int))) = ((at_ + (7 - k) : Nat) : Int) := by rw [IntWalk.i64_in _ (by omega)]; omega
      have W2 : IntKind.i64.wrap (7 - (k : Int) - 1) = 7 - ((k + 1 : Nat) : Int) := by rw [IntWalk.i64_in _ (by omega)]; omega
      have hr := numOf_range k (l.drop (at_ + (8 - k))) (fun x hx => hb x (List.mem_of_mem_drop hx))
      have hnd := numOf_drop l (at_ + (7 - k)) hi k
      rw [show at_ + (7 - k) + 1 = at_ + (8 - k) by omega] at hnd
      obtain ⟨q, hq⟩ : ∃ q, q = numOf k (l.drop (at_ + (8 - k))) := ⟨_, rfl⟩
      rw [← hq] at hr hnd ⊢
      have HQ := Lib.hid hq; clear hq
      have hk2 : ((at_ + (7 - k) : Nat) : Int) < ((strOfNums l).size : Int) := by rw [hsz]; omega
      go_wp2_with fail
      have hbi := hb _ (List.getElem_mem hi)
      have hch := chr_at l _ hi hbi (by rw [hsz]; omega)
      have e8 := pow_le8 k hlt
      have hw : ∀ z : Int, IntKind.u64.wrap z = z % 18446744073709551616 := fun z => by simp [IntKind.wrap, IntKind.bits, IntKind.signed]
      refine ⟨⟨k + 1, by omega, by go_num, ?_, trivial⟩, ?_⟩
      · rw [show at_ + (8 - (k + 1)) = at_ + (7 - k) by omega, hnd, hch, hw, hw, hw]
        congr 1
        omega
      · show (7 - ((k : Int) + 1) + 1).toNat < (7 - (k : Int) + 1).toNat
        omega
    · obtain rfl : k = 8 := by omega
      go_wp2_with fail
      go_ret
      exact ⟨by simp, rfl⟩
end Go.Proofs.Ytlmaflhfedbmdaa

/- Names of operations: package ops, its reference, and the law OpsNames' walk. -/
import Derived.Test.YtlmaflhfedbmdaaOps
set_option linter.unusedVariables false
set_option linter.unusedSimpArgs false
namespace Go.Proofs.Ytlmaflhfedbmdaa
open Go Go.RowKit

/-- The names, by their kinds. -/
def tabAt : Nat → ByteArray
  | 1 => ⟨#[114, 101, 103, 105, 111, 110]⟩
  | 2 => ⟨#[115, 117, 98]⟩
  | 3 => ⟨#[100, 101, 108, 101, 116, 101]⟩
  | 4 => ⟨#[110, 101, 119]⟩
  | 5 => ⟨#[97, 114, 114, 97, 121]⟩
  | 6 => ⟨#[115, 101, 116]⟩
  | 7 => ⟨#[103, 101, 116]⟩
  | 8 => ⟨#[103, 108, 111, 98, 97, 108]⟩
  | 9 => ⟨#[108, 111, 111, 107]⟩
  | 10 => ⟨#[112, 117, 115, 104]⟩
  | 11 => ⟨#[112, 111, 112]⟩
  | 12 => ⟨#[115, 108, 111, 116]⟩
  | 13 => ⟨#[112, 101, 101, 107]⟩
  | 14 => ⟨#[99, 111, 117, 110, 116]⟩
  | 15 => ⟨#[102, 114, 101, 101]⟩
  | _ => ⟨#[]⟩
def tabV : Value := .agg ((List.range 16).map fun i => Value.string (tabAt i)).toArray

set_option maxRecDepth 100000 in
set_option maxHeartbeats 2000000 in
theorem ops_names (w : World) : Calls Try.prog 45 #[] w fun e w' => e = .returned tabV ∧ Ch No w w' := by
  go_enter Try.func45, Try.ntmps45
  go_wp2
  exact bodyPost_ret (results_cell_row rfl _ _ w.heap.size _ _ _ _ rfl (heap_alloc_new w _) Try.underlying97 rfl (by kernel_rfl)) rfl ⟨rfl, (Ch.refl _ _).alloc _⟩

theorem tab_index (n : Nat) (hn : n ≤ 15) (w : World) : (Instr.index 97 tabV (.int .i64 (n : Int))).run Try.prog w = .ok (.string (tabAt n)) w := by
  unfold tabV
  refine index_arr w Try.underlying97 Try.underlying9 rfl (by kernel_rfl) _ _ n (by omega) _ ?_
  have h : n < 16 := by omega
  simp [h]

theorem ops_Name_in (w : World) (n : Nat) (h1 : n ≤ 15) : Calls Try.prog 28 #[.int .i64 n] w fun e w' => e = .returned (.string (tabAt n)) ∧ Ch No w w' := by
  have h0 : decide ((n : Int) < 0) = false := by simp
  have hx := tab_index n h1
  go_enter Try.func28, Try.ntmps28
  go_wp2_with fail
  refine (ops_names w).mono ?_
  rintro e w1 ⟨rfl, hc⟩
  go_wp2_with fail
  go_ret
  exact ⟨rfl, hc⟩

/-- The name of a kind; nothing. -/
def nameOf (k : Int) : ByteArray := if 1 ≤ k ∧ k ≤ 15 then tabAt k.toNat else ⟨#[]⟩

theorem ops_Name (w : World) (k : Int) : Calls Try.prog 28 #[.int .i64 k] w fun e w' => e = .returned (.string (nameOf k)) ∧ Ch No w w' := by
  by_cases h : 0 ≤ k ∧ k ≤ 15
  · obtain ⟨n, rfl⟩ : ∃ n : Nat, k = n := ⟨k.toNat, by omega⟩
    refine (ops_Name_in w n (by omega)).mono ?_
    rintro e w1 ⟨rfl, hc⟩
    refine ⟨?_, hc⟩
    unfold nameOf
    by_cases h1 : 1 ≤ (n : Int)
    · rw [if_pos ⟨h1, h.2⟩, Int.toNat_natCast]
    · obtain rfl : n = 0 := by omega
      rw [if_neg (by omega)]; rfl
  · have e : nameOf k = ⟨#[]⟩ := if_neg (by omega)
    rw [e]
    clear e
    have hb : decide (k < 0) = true ∨ (decide (k < 0) = false ∧ decide (15 < k) = true) := by
      by_cases h0 : k < 0
      · left; simpa using h0
      · right; exact ⟨by simpa using h0, by simp; omega⟩
    rcases hb with hb | ⟨hb, hb'⟩
    all_goals
      go_enter Try.func28, Try.ntmps28
      go_wp2_with fail
      go_ret
      exact ⟨rfl, Ch.refl _ _⟩

/-- The kind of a name; 0. -/
def kindTo (s : ByteArray) : Nat → Nat
  | 0 => 0
  | n + 1 => if kindTo s n = 0 ∧ tabAt (n + 1) = s then n + 1 else kindTo s n
def kindOf (s : ByteArray) : Nat := kindTo s 15

theorem kindTo_le (s : ByteArray) : ∀ n, kindTo s n ≤ n
  | 0 => Nat.le_refl _
  | n + 1 => by unfold kindTo; have := kindTo_le s n; split <;> omega
theorem kindTo_stays (s : ByteArray) (n : Nat) (h : 0 < kindTo s n) : ∀ m, n ≤ m → kindTo s m = kindTo s n := by
  intro m hm
  induction m with
  | zero =>
    obtain rfl : n = 0 := by omega
    rfl
  | succ m ih =>
    by_cases e : n = m + 1
    · rw [e]
    · have := ih (by omega)
      show (if kindTo s m = 0 ∧ tabAt (m + 1) = s then m + 1 else kindTo s m) = _
      rw [if_neg (by omega), this]
theorem kindTo_zero (s : ByteArray) : ∀ n, kindTo s n = 0 → ∀ m, 1 ≤ m → m ≤ n → tabAt m ≠ s
  | 0, _, m, h1, h2 => by omega
  | n + 1, h, m, h1, h2 => by
    unfold kindTo at h
    split at h
    · omega
    · rename_i hn
      by_cases e : m = n + 1
      · subst e; intro ht; exact hn ⟨h, ht⟩
      · exact kindTo_zero s n h m h1 (by omega)

set_option maxRecDepth 100000 in
set_option maxHeartbeats 4000000 in
theorem ops_Kind (w : World) (s : ByteArray) : Calls Try.prog 27 #[.string s] w fun e w' => e = .returned (.tuple #[.int .i64 (kindOf s), .bool (decide (0 < kindOf s))]) ∧ Ch No w w' := by
  go_enter Try.func27, Try.ntmps27
  go_wp2_with fail
  refine (ops_names w).mono ?_
  rintro e w1 ⟨rfl, hc⟩
  go_wp2_with fail
  go_loopw [7] (fun i wr => ∃ k : Nat, k ≤ 16 ∧ i = .int .i64 k ∧ kindTo s (k - 1) = 0 ∧ Ch No w wr) (fun i _ => 16 - (intOf i).toNat)
  case atStart => exact ⟨0, by omega, rfl, rfl, hc⟩
  case round =>
    obtain ⟨k, hk, rfl, hz, hc'⟩ := hrel
    have HZ := Lib.hid hz; clear hz
    by_cases hlt : k < 16
    · have hx := tab_index k (by omega)
      have hlt' : (k : Int) < 16 := by omega
      by_cases h0 : k = 0
      · have hk0 : decide (0 < k) = false := by simp; omega
        have HK := Lib.hid h0; clear h0
        by_cases hs : tabAt k = s
        · have hs' := str_eq_t hs
          clear hs
          go_wp2_with fail
          go_roundw
          case rel => exact ⟨k + 1, by omega, by go_num, by have := HK.out; subst this; rfl, hc'⟩
          case measure => exact meas_lt (by omega)
        · have hs' := str_eq_f hs
          clear hs
          go_wp2_with fail
          go_roundw
          case rel => exact ⟨k + 1, by omega, by go_num, by have := HK.out; subst this; rfl, hc'⟩
          case measure => exact meas_lt (by omega)
      · have hk0 : decide (0 < k) = true := by simp; omega
        have hk1 : 1 ≤ k := by omega
        clear h0
        by_cases hs : tabAt k = s
        · have hs' := str_eq_t hs
          have HS := Lib.hid hs; clear hs
          go_wp2_with fail
          go_ret2
          have hkd : kindTo s k = k := by
            obtain ⟨m, rfl⟩ : ∃ m, k = m + 1 := ⟨k - 1, by omega⟩
            have := HZ.out
            simp only [Nat.add_sub_cancel] at this
            show (if kindTo s m = 0 ∧ tabAt (m + 1) = s then m + 1 else kindTo s m) = _
            rw [if_pos ⟨this, HS.out⟩]
          have hko : kindOf s = k := by unfold kindOf; rw [kindTo_stays s k (by omega) 15 (by omega), hkd]
          exact ⟨by rw [hko, decide_eq_true (by omega)]; rfl, hc'⟩
        · have hs' := str_eq_f hs
          have HS := Lib.hid hs; clear hs
          go_wp2_with fail
          go_roundw
          case rel =>
            refine ⟨k + 1, by omega, by go_num, ?_, hc'⟩
            obtain ⟨m, rfl⟩ : ∃ m, k = m + 1 := ⟨k - 1, by omega⟩
            have := HZ.out
            simp only [Nat.add_sub_cancel] at this ⊢
            show (if kindTo s m = 0 ∧ tabAt (m + 1) = s then m + 1 else kindTo s m) = _
            rw [if_neg (fun h => HS.out h.2)]; exact this
          case measure => exact meas_lt (by omega)
    · obtain rfl : k = 16 := by omega
      go_wp2_with fail
      go_ret2
      have hko : kindOf s = 0 := HZ.out
      exact ⟨by rw [hko]; rfl, hc'⟩
end Go.Proofs.Ytlmaflhfedbmdaa

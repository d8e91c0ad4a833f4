/- Package bits: Find. -/
import Derived.Test.YtpldogmamifdpaaDoorBits3
set_option linter.unusedVariables false
set_option linter.unusedSimpArgs false
namespace Go.Proofs.YtpldogmamifdpaaDoor
open Go Go.RowKit

/-- From a on so many aren't marked. -/
def FreeAt (x : List Bool) (a m : Nat) : Prop := a + m ≤ x.length ∧ ∀ j : Nat, j < m → x.getD (a + j) false = false
def IsFind (x : List Bool) (m : Nat) : Option Nat → Prop
  | some a => FreeAt x a m ∧ ∀ b, b < a → ¬ FreeAt x b m
  | none => ∀ b, ¬ FreeAt x b m
theorem IsFind.uniq {x : List Bool} {m : Nat} : ∀ {r r' : Option Nat}, IsFind x m r → IsFind x m r' → r = r'
  | none, none, _, _ => rfl
  | some j, none, h, h' => absurd h.1 (h' j)
  | none, some j, h', h => absurd h.1 (h' j)
  | some j, some j', h, h' => by
    rcases Nat.lt_trichotomy j j' with q | q | q
    · exact absurd h.1 (h'.2 j q)
    · rw [q]
    · exact absurd h'.1 (h.2 j' q)

theorem bits_Find_no (w : World) (p g : Nat) (x : List Bool) (n : Int) (hn : n < 1) :
    Calls Tryd.prog 49 #[.pointer (some ⟨p, 0, none⟩), .int .i64 n] w fun e w' => e = .returned (optV none) ∧ w = w' := by
  have b1 : decide (n < 1) = true := decide_eq_true hn
  go_enter Tryd.func49, Tryd.ntmps49
  go_wp2_with fail
  go_step3
  go_wp2_with fail
  try rw [Exit.noGoto_ret]
  go_ret2
  exact ⟨rfl, rfl⟩

set_option maxHeartbeats 2000000 in
theorem bits_Find (w : World) (p g : Nat) (x : List Bool) (m : Nat) (h : RowAt w p g x) (hm : 1 ≤ m) (hm2 : m ≤ 9223372036854775807) :
    Calls Tryd.prog 49 #[.pointer (some ⟨p, 0, none⟩), .int .i64 m] w fun e w' => ∃ r, e = .returned (optV r) ∧ IsFind x m r ∧ w = w' := by
  have hle := h.le
  have c1 : w.cell? ⟨p, 1, none⟩ = some (.int .i64 x.length) := cellOf h.head 1 rfl
  have b1 : decide ((m : Int) < 1) = false := decide_eq_false (by omega)
  obtain ⟨n, hnx⟩ : ∃ n, n = x.length := ⟨_, rfl⟩
  have HNX := Lib.hid hnx
  rw [← hnx] at c1 hle
  clear hnx
  go_enter Tryd.func49, Tryd.ntmps49
  go_wp2_with fail
  go_step3
  go_wp2_with fail
  go_step3
  go_wp2_with fail
  go_loopw [6] (fun i wr => ∃ a : Nat, a ≤ n ∧ i = .int .i64 a ∧ (∀ b, b < a → ¬ FreeAt x b m) ∧ w = wr) (fun i _ => n - (intOf i).toNat)
  case atStart => exact ⟨0, by omega, rfl, fun b hb => absurd hb (by omega), rfl⟩
  case round =>
    obtain ⟨a, ha, rfl, hno, rfl⟩ := hrel
    have HNO := Lib.hid hno; clear hno
    by_cases hfit : (m : Int) ≤ n - a
    · have b2 : decide ((m : Int) ≤ (n : Int) - (a : Int)) = true := decide_eq_true hfit
      have W1 : IntKind.i64.wrap ((n : Int) - (a : Int)) = (n : Int) - a := IntWalk.i64_in _ (by omega)
      have W2 : IntKind.i64.wrap ((m : Int) - 1) = (m : Int) - 1 := IntWalk.i64_in _ (by omega)
      go_wp2_with fail
      go_loopw [6, 7] (fun v i wr => ∃ k : Int, -1 ≤ k ∧ k ≤ (m : Int) - 1 ∧ i = .int .i64 k ∧ v = .int .i64 (a : Int) ∧ (∀ j : Nat, k < j → j < m → x.getD (a + j) false = false) ∧ w = wr) (fun _ i _ => (intOf i + 1).toNat)
      case atStart => exact ⟨(m : Int) - 1, by omega, by omega, rfl, rfl, fun j h1 h2 => absurd h1 (by omega), rfl⟩
      case round =>
        obtain ⟨k, hk1, hk2, rfl, rfl, hal, rfl⟩ := hrel
        have HAL := Lib.hid hal; clear hal
        by_cases hk0 : 0 ≤ k
        · have b3 : decide (k ≥ 0) = true := decide_eq_true hk0
          obtain ⟨j, rfl⟩ : ∃ j : Nat, k = j := ⟨k.toNat, by omega⟩
          have hhas := bits_Has w p g x ((a + j : Nat) : Int) h (show _ ∧ _ from by omega)
          rw [getB_nat, show ((a + j : Nat) : Int) = (a : Int) + (j : Int) by omega] at hhas
          have W3 : IntKind.i64.wrap ((a : Int) + (j : Int)) = (a : Int) + (j : Int) := IntWalk.i64_in _ (by omega)
          have W4 : IntKind.i64.wrap ((j : Int) - 1) = (j : Int) - 1 := IntWalk.i64_in _ (by omega)
          have W5 : IntKind.i64.wrap ((j : Int) + 1) = (j : Int) + 1 := IntWalk.i64_in _ (by omega)
          have W6 : IntKind.i64.wrap ((a : Int) + ((j : Int) + 1)) = ((a + j + 1 : Nat) : Int) := by rw [IntWalk.i64_in _ (by omega)]; omega
          cases hmk : x.getD (a + j) false with
          | true =>
            rw [hmk] at hhas
            have HMK := Lib.hid hmk; clear hmk
            go_wp2_with fail
            with_reducible refine hhas.mono ?_
            rintro e w1 ⟨rfl, rfl⟩
            dsimp only
            go_wp2_with fail
            refine ⟨⟨a + j + 1, by omega, by go_num, fun b hb hfr => ?_, trivial⟩, ?_⟩
            · by_cases hba : b < a
              · exact HNO.out b hba hfr
              · have := hfr.2 (a + j - b) (by omega)
                rw [show b + (a + j - b) = a + j by omega, HMK.out] at this
                cases this
            · show n - ((a : Int) + (j : Int) + 1).toNat < n - ((a : Int)).toNat
              omega
          | false =>
            rw [hmk] at hhas
            have HMK := Lib.hid hmk; clear hmk
            go_wp2_with fail
            with_reducible refine hhas.mono ?_
            rintro e w1 ⟨rfl, rfl⟩
            dsimp only
            go_wp2_with fail
            go_roundw
            case rel =>
              refine ⟨(j : Int) - 1, by omega, by omega, rfl, rfl, fun i h1 h2 => ?_, trivial⟩
              by_cases hi : i = j
              · rw [hi]; exact HMK.out
              · exact HAL.out i (by omega) h2
            case measure =>
              show ((j : Int) - 1 + 1).toNat < ((j : Int) + 1).toNat
              omega
        · have b3 : decide (k ≥ 0) = false := decide_eq_false hk0
          go_wp2_with fail
          go_ret2
          exact ⟨some a, rfl, ⟨⟨by rw [← HNX.out]; omega, fun j hj => HAL.out j (by omega) hj⟩, HNO.out⟩, rfl⟩
    · have b2 : decide ((m : Int) ≤ (n : Int) - (a : Int)) = false := decide_eq_false hfit
      have W1 : IntKind.i64.wrap ((n : Int) - (a : Int)) = (n : Int) - a := IntWalk.i64_in _ (by omega)
      go_wp2_with fail
      go_ret2
      refine ⟨none, rfl, fun b hb => ?_, rfl⟩
      by_cases hba : b < a
      · exact HNO.out b hba hb
      · have := hb.1
        rw [← HNX.out] at this
        omega
end Go.Proofs.YtpldogmamifdpaaDoor

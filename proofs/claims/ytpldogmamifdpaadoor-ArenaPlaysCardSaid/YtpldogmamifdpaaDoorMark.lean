/- Marks: what a Mark leaves and answers; free places. -/
import Derived.Test.YtpldogmamifdpaaDoorBits4
set_option linter.unusedVariables false
set_option linter.unusedSimpArgs false
namespace Go.Proofs.YtpldogmamifdpaaDoor
open Go Go.RowKit

def markL (x : List Bool) (a b : Int) (on : Bool) : List Bool := if fitsB x.length a b then markB x a.toNat on b.toNat else x
def markE (x : List Bool) (a b : Int) : Int := if fitsB x.length a b then 0 else 8
theorem markL_length (x : List Bool) (a b : Int) (on : Bool) : (markL x a b on).length = x.length := by unfold markL; split <;> simp [markB_length]
theorem whole_free (x : List Bool) (a m : Nat) : wholeB x a m false = true ↔ FreeAt x a m := by
  unfold wholeB FreeAt
  rw [Bool.and_eq_true, decide_eq_true_iff, List.all_eq_true]
  simp only [Int.toNat_natCast, List.mem_range]
  unfold fitsB
  constructor
  · rintro ⟨h1, h2⟩
    exact ⟨by omega, fun j hj => by simpa using h2 j hj⟩
  · rintro ⟨h1, h2⟩
    exact ⟨by omega, fun j hj => by simpa using h2 j hj⟩
end Go.Proofs.YtpldogmamifdpaaDoor

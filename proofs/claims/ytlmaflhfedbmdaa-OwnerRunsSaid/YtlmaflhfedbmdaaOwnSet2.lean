/- Package owner: Set, refused. -/
import Derived.Test.YtlmaflhfedbmdaaOwnSet
set_option linter.unusedVariables false
set_option linter.unusedSimpArgs false
namespace Go.Proofs.Ytlmaflhfedbmdaa
open Go Go.RowKit

theorem owner_Set_arg (w : World) (p m n : Nat) (f : Int → Int) (G : Nat → Prop) (x y o : Int) (h0 : o < 0) :
    Calls Try.prog 32 #[.pointer (some ⟨p, 0, none⟩), .agg #[.int .i64 x, .int .i64 y], .int .i64 o] w fun e w' => e = .returned (.int .i64 1) ∧ Ch No w w' := by
  go_enter Try.func32, Try.ntmps32
  go_wp2_with fail
  go_ret
  exact ⟨rfl, (Ch.refl _ _).alloc _⟩

/-- Do these pages lie in n? -/
def fits (n : Nat) (x y : Int) : Prop := 0 ≤ x ∧ 0 ≤ y ∧ x ≤ n ∧ x + y ≤ n
instance (n : Nat) (x y : Int) : Decidable (fits n x y) := by unfold fits; exact inferInstance

set_option maxRecDepth 100000 in
set_option maxHeartbeats 2000000 in
theorem owner_Set_no (w : World) (p m n : Nat) (f : Int → Int) (G : Nat → Prop) (x y o : Int) (h : OwnAt w p m n f G) (hx : I64 x) (hy : I64 y) (h0 : 0 ≤ o) (hf : ¬ fits n x y) :
    Calls Try.prog 32 #[.pointer (some ⟨p, 0, none⟩), .agg #[.int .i64 x, .int .i64 y], .int .i64 o] w fun e w' => e = .returned (.int .i64 8) ∧ Ch No w w' := by
  have c1 := cellOf h.head 1 rfl
  have hn := h.nle
  have hx' := hx.bd
  have hy' := hy.bd
  have d1 := ((Ch.refl No w).alloc (.cells #[.int .i64 x, .int .i64 y] 72)).cell c1 (fun q => q)
  clear h c1
  by_cases hx0 : x < 0
  · have b1 : decide (x < 0) = true := by simp; omega
    clear hf d1 hn hx' hy' hx hy
    go_enter Try.func32, Try.ntmps32
    go_wp2_with fail
    go_quiet (fail)
    go_wp2_with fail
    go_ret
    exact ⟨rfl, ((Ch.refl _ _).alloc _).drewN _⟩
  · by_cases hy0 : y < 0
    · have b1 : decide (x < 0) = false := by simp; omega
      have b2 : decide (y < 0) = true := by simp; omega
      clear hf d1 hn hx' hy' hx hy
      go_enter Try.func32, Try.ntmps32
      go_wp2_with fail
      go_quiet (fail)
      go_wp2_with fail
      go_ret
      exact ⟨rfl, ((Ch.refl _ _).alloc _).drewN _⟩
    · by_cases hxn : (n : Int) < x
      · have b1 : decide (x < 0) = false := by simp; omega
        have b2 : decide (y < 0) = false := by simp; omega
        have b3 : decide (x > (n : Int)) = true := by simp; omega
        have b4 : decide ((n : Int) < x) = true := by simp; omega
        clear hf hx' hy' hx hy
        go_enter Try.func32, Try.ntmps32
        go_wp2_with fail
        go_quiet (fail)
        go_wp2_with fail
        go_ret
        exact ⟨rfl, ((Ch.refl _ _).alloc _).drewN _⟩
      · have hg1 : decide (x > (n : Int)) = false := by simp; omega
        have hw : IntKind.i64.wrap ((n : Int) - x) = n - x := IntWalk.i64_in _ (by omega)
        have b1 : decide (x < 0) = false := by simp; omega
        have b2 : decide (y < 0) = false := by simp; omega
        have hbad : (n : Int) - x < y := by unfold fits at hf; omega
        go_enter Try.func32, Try.ntmps32
        go_wp2_with fail
        go_quiet (fail)
        have hg2 : decide ((n : Int) - x < y) = true := by simp; omega
        try simp only [hw]
        go_wp2_with fail
        go_ret
        exact ⟨rfl, ((Ch.refl _ _).alloc _).drewN _⟩
end Go.Proofs.Ytlmaflhfedbmdaa

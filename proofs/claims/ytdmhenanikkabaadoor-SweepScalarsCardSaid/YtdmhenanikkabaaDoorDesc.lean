/- Layer 7 (desc): what a kind is; layer 14: is a pointer counted? -/
import Derived.Test.YtdmhenanikkabaaDoorKit
set_option linter.unusedVariables false
set_option linter.unusedSimpArgs false
namespace Go.Proofs.YtdmhenanikkabaaDoor
open Go Go.RowKit

/-- The variable 'what' holds what its initialiser lays. -/
structure Wt (w : World) : Prop where
  c0 : w.cell? ⟨0, 0, none⟩ = some (.int .i64 0)
  c1 : w.cell? ⟨0, 1, none⟩ = some (.int .i64 1)
  c2 : w.cell? ⟨0, 2, none⟩ = some (.int .i64 1)
  c3 : w.cell? ⟨0, 3, none⟩ = some (.int .i64 1)
theorem Wt.ch {w w' : World} {F : Nat → Prop} (h : Wt w) (hc : Ch F w w') (hF : ¬ F 0) : Wt w' := ⟨hc.cell h.c0 hF, hc.cell h.c1 hF, hc.cell h.c2 hF, hc.cell h.c3 hF⟩
theorem Wt.ch0 {w w' : World} (h : Wt w) (hc : Ch No w w') : Wt w' := h.ch hc (fun q => q)
theorem Wt.lt {w : World} (h : Wt w) : 0 < w.heap.size := World.block_lt_of_cell? w _ h.c0

def whatOf (k : Int) : Int := if k < 0 ∨ 4 ≤ k then 2 else if k = 0 then 0 else 1
theorem desc_of (w : World) (k : Int) (h : Wt w) (ik : I64 k) :
    Calls Tryd.prog 27 #[.int .i64 k] w fun e w' => e = .returned (.int .i64 (whatOf k)) ∧ w = w' := by
  obtain ⟨c0, c1, c2, c3⟩ := h
  unfold whatOf
  by_cases h1 : k < 0
  · have b1 : decide (k < 0) = true := decide_eq_true h1
    rw [if_pos (.inl h1)]
    clear h1 c0 c1 c2 c3
    go_enter Tryd.func27, Tryd.ntmps27
    go_wp2_with fail
    go_ret
    exact ⟨rfl, rfl⟩
  by_cases h2 : 4 ≤ k
  · have b1 : decide (k < 0) = false := decide_eq_false h1
    have b2 : decide (k ≥ 4) = true := decide_eq_true h2
    rw [if_pos (.inr h2)]
    clear h1 h2 c0 c1 c2 c3
    go_enter Tryd.func27, Tryd.ntmps27
    go_wp2_with fail
    go_ret
    exact ⟨rfl, rfl⟩
  have hk : k = 0 ∨ k = 1 ∨ k = 2 ∨ k = 3 := by omega
  rcases hk with rfl | rfl | rfl | rfl
  · rw [if_neg (by decide), if_pos rfl]
    clear c1 c2 c3 h1 h2
    go_enter Tryd.func27, Tryd.ntmps27
    go_wp2_with fail
    go_ret
    exact ⟨rfl, rfl⟩
  · rw [if_neg (by decide), if_neg (by decide)]
    clear c0 c2 c3 h1 h2
    go_enter Tryd.func27, Tryd.ntmps27
    go_wp2_with fail
    go_ret
    exact ⟨rfl, rfl⟩
  · rw [if_neg (by decide), if_neg (by decide)]
    clear c0 c1 c3 h1 h2
    go_enter Tryd.func27, Tryd.ntmps27
    go_wp2_with fail
    go_ret
    exact ⟨rfl, rfl⟩
  · rw [if_neg (by decide), if_neg (by decide)]
    clear c0 c1 c2 h1 h2
    go_enter Tryd.func27, Tryd.ntmps27
    go_wp2_with fail
    go_ret
    exact ⟨rfl, rfl⟩

def isPtr (k : Int) : Bool := decide (1 ≤ k) && decide (k ≤ 3)
theorem isPtr_eq (k : Int) : (whatOf k == 1) = isPtr k := by
  rw [Bool.eq_iff_iff]
  unfold whatOf isPtr
  simp only [beq_iff_eq, Bool.and_eq_true, decide_eq_true_eq]
  split
  · constructor <;> intro z <;> omega
  · split
    · constructor <;> intro z <;> omega
    · constructor <;> intro z <;> omega
theorem desc_Pointer (w : World) (k : Int) (h : Wt w) (ik : I64 k) :
    Calls Tryd.prog 20 #[.int .i64 k] w fun e w' => e = .returned (.bool (isPtr k)) ∧ w = w' := by
  have hof := desc_of w k h ik
  have he := isPtr_eq k
  obtain ⟨v, hv⟩ : ∃ z, z = whatOf k := ⟨_, rfl⟩
  rw [← hv] at hof he
  have HE := Lib.hid he
  clear he hv
  go_enter Tryd.func20, Tryd.ntmps20
  go_wp2_with fail
  with_reducible refine hof.mono ?_
  rintro e w1 ⟨rfl, rfl⟩
  dsimp only
  go_wp2_with fail
  go_ret
  exact ⟨by rw [← HE.out]; rfl, rfl⟩

theorem annot_Counts (w : World) (kind a b : Int) :
    Calls Tryd.prog 21 #[.int .i64 kind, .int .i64 a, .int .i64 b] w fun e w' => e = .returned (.bool ((kind == 1) && ((b != 0) && (b != a)))) ∧ w = w' := by
  cases e1 : (kind == 1) with
  | false =>
    go_enter Tryd.func21, Tryd.ntmps21
    go_wp2_with fail
    go_ret
    exact ⟨rfl, rfl⟩
  | true =>
    cases e2 : (b != 0) with
    | false =>
      go_enter Tryd.func21, Tryd.ntmps21
      go_wp2_with fail
      go_ret
      exact ⟨rfl, rfl⟩
    | true =>
      go_enter Tryd.func21, Tryd.ntmps21
      go_wp2_with fail
      go_ret
      exact ⟨rfl, rfl⟩
end Go.Proofs.YtdmhenanikkabaaDoor

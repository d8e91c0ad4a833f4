/- For every input the call of TreeIntervals returns true, and what was there reads as it did. No condition. -/
import Derived.Test.YtinjbonodlkafaaRows
import Derived.Test.YtinjbonodlkafaaRow
import Derived.Test.YtinjbonodlkafaaLaw05J
set_option linter.unusedVariables false
set_option linter.unusedSimpArgs false
namespace Go.Proofs.Ytinjbonodlkafaa
open Go Go.RowKit Go.ChangeShapes Go.WideShapes

theorem own : ownKnob Try.prog.godebug = none := by kernel_rfl
theorem laidOut : laidOutB Try.prog = true := by kernel_rfl

theorem opens_tact : Opens Try.prog 68 tactRp :=
  (Opens.struct (e := prodRp (intRp .i64) (prodRp (intRp .i64) boolRp)) Try.underlying68 (by kernel_rfl)
    (OpensAt.cons (t := 3) (by kernel_rfl) (.int Try.underlying3 (by kernel_rfl)) (OpensAt.cons (t := 3) (by kernel_rfl) (.int Try.underlying3 (by kernel_rfl)) (OpensAt.last (t := 4) (by kernel_rfl) (.bool Try.underlying4 (by kernel_rfl)))))).imp rfl
    (by rintro w cs ⟨x, y, z⟩ ⟨c1, c2, rfl, ⟨rfl, h1⟩, ⟨c3, c4, rfl, ⟨rfl, h2⟩, ⟨rfl, _⟩⟩⟩; exact ⟨⟨x, y, z⟩, rfl, h1, h2⟩)
theorem opens_tacts : Opens Try.prog 63 (slRp tactRp) := .slice Try.underlying63 (by kernel_rfl) opens_tact (by decide)

set_option maxRecDepth 100000 in
theorem treeIntervals_lifted (os : Os) (started : os.Started) (H : Type) (enc : TypeId × Value → H) :
    ReturnsInHanded {} Try.checked os 9 .any (Rows.treeIntervalsSpec.pre6 enc Try.prog Try.f9 [] false) (Rows.treeIntervalsSpec.post enc Try.prog Try.f9 false true false false) := by
  refine law_row (C := Try.checked) (tb := 4) own started (by kernel_rfl) Try.func9
    (ChangeSpec.witness6 (enc := enc) (C := Try.checked) false ⟨#[], #[.slice none 0 0], []⟩ 8 (by kernel_rfl) (by kernel_rfl) (by kernel_rfl) (by kernel_rfl))
    laidOut (by kernel_rfl) rfl Try.underlying4 rfl (fun ds hd => by match ds, hd with | [_], _ => rfl) ?_
  intro W base args ds p hval hA hsz
  have hA' : DataW.TrodAll enc Try.prog W 0 (fun _ => true) true [63] args.toList ds p := hA
  obtain ⟨v0, vs0, d0, ds0, p0, q0, hargs, rfl, rfl, h0, r0⟩ := trodAll_cons hA'
  obtain ⟨rfl, rfl, rfl⟩ := trodAll_nil r0
  obtain rfl : args = #[v0] := by cases args; simp_all
  obtain ⟨l, a_l, c_l, e0, h_l⟩ := opens_tacts.arg h0
  obtain rfl := one_slice Try.underlying63 (hval 0 63 v0 rfl rfl) e0
  exact ivals05 W a_l c_l l h_l (Nat.le_trans h_l.le h_l.max)

theorem treeIntervals_holds : Rows.TreeIntervalsSaid :=
  OpenClaim.holds_of_wide 9 Try.f9 rfl rfl rfl rfl rfl rfl rfl ⟨rfl, rfl, rfl, rfl, rfl⟩ rfl rfl rfl rfl rfl (by kernel_rfl) Try.func9 (by kernel_rfl)
    (of_decide_eq_true (by kernel_rfl)) (by unfold Func.isWrapper; first | (rw [if_pos (by decide +kernel)]; kernel_rfl) | (rw [if_neg (by decide +kernel)]; exact ⟨rfl, rfl⟩))
    (fun os started H enc _ => treeIntervals_lifted os started H enc)

end Go.Proofs.Ytinjbonodlkafaa

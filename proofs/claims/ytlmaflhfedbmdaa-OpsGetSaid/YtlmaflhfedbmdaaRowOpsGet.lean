/- For every input the call of OpsGet returns true, and what was there reads as it did. No condition. -/
import Derived.Test.YtlmaflhfedbmdaaRows
import Derived.Test.YtlmaflhfedbmdaaRow
import Derived.Test.YtlmaflhfedbmdaaLawOpsG
set_option linter.unusedVariables false
set_option linter.unusedSimpArgs false
namespace Go.Proofs.Ytlmaflhfedbmdaa
open Go Go.RowKit Go.ChangeShapes Go.WideShapes

theorem own : ownKnob Try.prog.godebug = none := by kernel_rfl
theorem laidOut : laidOutB Try.prog = true := by kernel_rfl

theorem opens_bytes : Opens Try.prog 47 (slRp (intRp .u8)) := .slice Try.underlying47 (by kernel_rfl) (.int Try.underlying5 (by kernel_rfl)) (by decide)

set_option maxRecDepth 100000 in
theorem opsGet_lifted (os : Os) (started : os.Started) (H : Type) (enc : TypeId × Value → H) :
    ReturnsInHanded {} Try.checked os 6 .any (Rows.opsGetSpec.pre6 enc Try.prog Try.f6 [] false) (Rows.opsGetSpec.post enc Try.prog Try.f6 false true false false) := by
  refine law_row (C := Try.checked) (tb := 4) own started (by kernel_rfl) Try.func6
    (ChangeSpec.witness6 (enc := enc) (C := Try.checked) false ⟨#[], #[.slice none 0 0], []⟩ 8 (by kernel_rfl) (by kernel_rfl) (by kernel_rfl) (by kernel_rfl))
    laidOut (by kernel_rfl) rfl Try.underlying4 rfl (fun ds hd => by match ds, hd with | [_], _ => rfl) ?_
  intro W base args ds p hval hA hsz
  have hA' : DataW.TrodAll enc Try.prog W 0 (fun _ => true) true [47] args.toList ds p := hA
  obtain ⟨v0, vs0, d0, ds0, p0, q0, hargs, rfl, rfl, h0, r0⟩ := trodAll_cons hA'
  obtain ⟨rfl, rfl, rfl⟩ := trodAll_nil r0
  obtain rfl : args = #[v0] := by cases args; simp_all
  obtain ⟨l, a_l, c_l, e0, h_l⟩ := opens_bytes.arg h0
  obtain rfl := one_slice Try.underlying47 (hval 0 47 v0 rfl rfl) e0
  exact get21 W a_l c_l l h_l (Nat.le_trans h_l.le h_l.max)

theorem opsGet_holds : Rows.OpsGetSaid :=
  OpenClaim.holds_of_wide 6 Try.f6 rfl rfl rfl rfl rfl rfl rfl ⟨rfl, rfl, rfl, rfl, rfl⟩ rfl rfl rfl rfl rfl (by kernel_rfl) Try.func6 (by kernel_rfl)
    (of_decide_eq_true (by kernel_rfl)) (by unfold Func.isWrapper; first | (rw [if_pos (by decide +kernel)]; kernel_rfl) | (rw [if_neg (by decide +kernel)]; exact ⟨rfl, rfl⟩))
    (fun os started H enc _ => opsGet_lifted os started H enc)

end Go.Proofs.Ytlmaflhfedbmdaa

/- For every input the call of OpsNames returns true, and what was there reads as it did. No condition. -/
import Derived.Test.YtlmaflhfedbmdaaRows
import Derived.Test.YtlmaflhfedbmdaaRow
import Derived.Test.YtlmaflhfedbmdaaLawOpsNames
set_option linter.unusedVariables false
set_option linter.unusedSimpArgs false
namespace Go.Proofs.Ytlmaflhfedbmdaa
open Go Go.RowKit Go.ChangeShapes Go.WideShapes

theorem own : ownKnob Try.prog.godebug = none := by kernel_rfl
theorem laidOut : laidOutB Try.prog = true := by kernel_rfl

set_option maxRecDepth 100000 in
theorem opsNames_lifted (os : Os) (started : os.Started) (H : Type) (enc : TypeId × Value → H) :
    ReturnsInHanded {} Try.checked os 7 .any (Rows.opsNamesSpec.pre6 enc Try.prog Try.f7 [] false) (Rows.opsNamesSpec.post enc Try.prog Try.f7 false true false false) := by
  refine law_row (C := Try.checked) (tb := 4) own started (by kernel_rfl) Try.func7
    (ChangeSpec.witness6 (enc := enc) (C := Try.checked) false ⟨#[], #[.int .i64 0, .string ByteArray.empty], []⟩ 8 (by kernel_rfl) (by kernel_rfl) (by kernel_rfl) (by kernel_rfl))
    laidOut (by kernel_rfl) rfl Try.underlying4 rfl (fun ds hd => by match ds, hd with | [_, _], _ => rfl) ?_
  intro W base args ds p hval hA hsz
  have hA' : DataW.TrodAll enc Try.prog W 0 (fun _ => true) true [3, 9] args.toList ds p := hA
  obtain ⟨v0, vs0, d0, ds0, p0, q0, hargs, rfl, rfl, h0, r0⟩ := trodAll_cons hA'
  obtain ⟨v1, vs1, d1, ds1, p1, q1, rfl, rfl, rfl, h1, r1⟩ := trodAll_cons r0
  obtain ⟨rfl, rfl, rfl⟩ := trodAll_nil r1
  obtain rfl : args = #[v0, v1] := by cases args; simp_all
  obtain ⟨x, e0, b_x⟩ := (Opens.int (P := Try.prog) Try.underlying3 (by kernel_rfl)).arg h0
  obtain rfl := one_int Try.underlying3 (hval 0 3 v0 rfl rfl) e0
  obtain ⟨s, e1, b_s⟩ := (Opens.str (P := Try.prog) Try.underlying9 (by kernel_rfl)).arg h1
  obtain rfl := one_string Try.underlying9 (hval 1 9 v1 rfl rfl) e1
  exact names21 W x s b_x b_s

theorem opsNames_holds : Rows.OpsNamesSaid :=
  OpenClaim.holds_of_wide 7 Try.f7 rfl rfl rfl rfl rfl rfl rfl ⟨rfl, rfl, rfl, rfl, rfl⟩ rfl rfl rfl rfl rfl (by kernel_rfl) Try.func7 (by kernel_rfl)
    (of_decide_eq_true (by kernel_rfl)) (by unfold Func.isWrapper; first | (rw [if_pos (by decide +kernel)]; kernel_rfl) | (rw [if_neg (by decide +kernel)]; exact ⟨rfl, rfl⟩))
    (fun os started H enc _ => opsNames_lifted os started H enc)

end Go.Proofs.Ytlmaflhfedbmdaa

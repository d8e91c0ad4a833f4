/- For every input the call of IdsPlay returns true, and what was there reads as it did. No condition. -/
import Derived.Test.YtinjbonodlkafaaRows
import Derived.Test.YtinjbonodlkafaaRow
import Derived.Test.YtinjbonodlkafaaLaw04
set_option linter.unusedVariables false
set_option linter.unusedSimpArgs false
namespace Go.Proofs.Ytinjbonodlkafaa
open Go Go.RowKit Go.ChangeShapes Go.WideShapes

theorem own : ownKnob Try.prog.godebug = none := by kernel_rfl
theorem laidOut : laidOutB Try.prog = true := by kernel_rfl

theorem opens_ints : Opens Try.prog 22 (slRp (intRp .i64)) := .slice Try.underlying22 (by kernel_rfl) (.int Try.underlying3 (by kernel_rfl)) (by decide)

set_option maxRecDepth 100000 in
theorem idsPlay_lifted (os : Os) (started : os.Started) (H : Type) (enc : TypeId × Value → H) :
    ReturnsInHanded {} Try.checked os 3 .any (Rows.idsPlaySpec.pre6 enc Try.prog Try.f3 [] false) (Rows.idsPlaySpec.post enc Try.prog Try.f3 false true false false) := by
  refine law_row (C := Try.checked) (tb := 4) own started (by kernel_rfl) Try.func3
    (ChangeSpec.witness6 (enc := enc) (C := Try.checked) false ⟨#[], #[.int .i64 0, .slice none 0 0], []⟩ 8 (by kernel_rfl) (by kernel_rfl) (by kernel_rfl) (by kernel_rfl))
    laidOut (by kernel_rfl) rfl Try.underlying4 rfl (fun ds hd => by match ds, hd with | [_, _], _ => rfl) ?_
  intro W base args ds p hval hA hsz
  have hA' : DataW.TrodAll enc Try.prog W 0 (fun _ => true) true [3, 22] args.toList ds p := hA
  obtain ⟨v0, vs0, d0, ds0, p0, q0, hargs, rfl, rfl, h0, r0⟩ := trodAll_cons hA'
  obtain ⟨v1, vs1, d1, ds1, p1, q1, rfl, rfl, rfl, h1, r1⟩ := trodAll_cons r0
  obtain ⟨rfl, rfl, rfl⟩ := trodAll_nil r1
  obtain rfl : args = #[v0, v1] := by cases args; simp_all
  obtain ⟨mo, e0, b_mo⟩ := (Opens.int (P := Try.prog) Try.underlying3 (by kernel_rfl)).arg h0
  obtain rfl := one_int Try.underlying3 (hval 0 3 v0 rfl rfl) e0
  obtain ⟨l, a_l, c_l, e1, h_l⟩ := opens_ints.arg h1
  obtain rfl := one_slice Try.underlying22 (hval 1 22 v1 rfl rfl) e1
  exact play04 W mo a_l c_l l b_mo h_l (Nat.le_trans h_l.le h_l.max)

theorem idsPlay_holds : Rows.IdsPlaySaid :=
  OpenClaim.holds_of_wide 3 Try.f3 rfl rfl rfl rfl rfl rfl rfl ⟨rfl, rfl, rfl, rfl, rfl⟩ rfl rfl rfl rfl rfl (by kernel_rfl) Try.func3 (by kernel_rfl)
    (of_decide_eq_true (by kernel_rfl)) (by unfold Func.isWrapper; first | (rw [if_pos (by decide +kernel)]; kernel_rfl) | (rw [if_neg (by decide +kernel)]; exact ⟨rfl, rfl⟩))
    (fun os started H enc _ => idsPlay_lifted os started H enc)

end Go.Proofs.Ytinjbonodlkafaa

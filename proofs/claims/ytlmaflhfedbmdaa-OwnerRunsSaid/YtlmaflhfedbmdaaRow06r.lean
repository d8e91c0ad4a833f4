/- For every input the call of OwnerRuns returns true, and what was there reads as it did. No condition. -/
import Derived.Test.YtlmaflhfedbmdaaRows
import Derived.Test.YtlmaflhfedbmdaaRow
import Derived.Test.YtlmaflhfedbmdaaLaw06c
set_option linter.unusedVariables false
set_option linter.unusedSimpArgs false
namespace Go.Proofs.Ytlmaflhfedbmdaa
open Go Go.RowKit Go.ChangeShapes Go.WideShapes

theorem own : ownKnob Try.prog.godebug = none := by kernel_rfl
theorem laidOut : laidOutB Try.prog = true := by kernel_rfl

theorem opens_oact : Opens Try.prog 74 oactRp :=
  (Opens.struct (e := prodRp (prodRp (intRp .i64) (intRp .i64)) (intRp .i64)) Try.underlying74 (by kernel_rfl)
    (OpensAt.cons (t := 72) (by kernel_rfl)
      (Opens.struct Try.underlying72 (by kernel_rfl) (OpensAt.cons (t := 3) (by kernel_rfl) (.int Try.underlying3 (by kernel_rfl)) (OpensAt.last (t := 3) (by kernel_rfl) (.int Try.underlying3 (by kernel_rfl)))))
      (OpensAt.last (t := 3) (by kernel_rfl) (.int Try.underlying3 (by kernel_rfl))))).imp rfl
    (by rintro w cs ⟨⟨x, y⟩, z⟩ ⟨c1, c2, rfl, ⟨c3, c4, rfl, ⟨rfl, h1⟩, ⟨rfl, h2⟩⟩, ⟨rfl, h3⟩⟩; exact ⟨⟨x, y, z⟩, rfl, h1, h2, h3⟩)
theorem opens_oacts : Opens Try.prog 65 (slRp oactRp) := .slice Try.underlying65 (by kernel_rfl) opens_oact (by decide)

set_option maxRecDepth 100000 in
theorem ownerRuns_lifted (os : Os) (started : os.Started) (H : Type) (enc : TypeId × Value → H) :
    ReturnsInHanded {} Try.checked os 9 .any (Rows.ownerRunsSpec.pre6 enc Try.prog Try.f9 [] false) (Rows.ownerRunsSpec.post enc Try.prog Try.f9 false true false false) := by
  refine law_row (C := Try.checked) (tb := 4) own started (by kernel_rfl) Try.func9
    (ChangeSpec.witness6 (enc := enc) (C := Try.checked) false ⟨#[], #[.int .u16 0, .slice none 0 0], []⟩ 8 (by kernel_rfl) (by kernel_rfl) (by kernel_rfl) (by kernel_rfl))
    laidOut (by kernel_rfl) rfl Try.underlying4 rfl (fun ds hd => by match ds, hd with | [_, _], _ => rfl) ?_
  intro W base args ds p hval hA hsz
  have hA' : DataW.TrodAll enc Try.prog W 0 (fun _ => true) true [85, 65] args.toList ds p := hA
  obtain ⟨v0, vs0, d0, ds0, p0, q0, hargs, rfl, rfl, h0, r0⟩ := trodAll_cons hA'
  obtain ⟨v1, vs1, d1, ds1, p1, q1, rfl, rfl, rfl, h1, r1⟩ := trodAll_cons r0
  obtain ⟨rfl, rfl, rfl⟩ := trodAll_nil r1
  obtain rfl : args = #[v0, v1] := by cases args; simp_all
  obtain ⟨x, e0, b_x⟩ := (Opens.int (P := Try.prog) Try.underlying85 (by kernel_rfl)).arg h0
  obtain rfl := one_int Try.underlying85 (hval 0 85 v0 rfl rfl) e0
  obtain ⟨l, a_l, c_l, e1, h_l⟩ := opens_oacts.arg h1
  obtain rfl := one_slice Try.underlying65 (hval 1 65 v1 rfl rfl) e1
  exact runs06 W x a_l c_l l h_l b_x (Nat.le_trans h_l.le h_l.max)

theorem ownerRuns_holds : Rows.OwnerRunsSaid :=
  OpenClaim.holds_of_wide 9 Try.f9 rfl rfl rfl rfl rfl rfl rfl ⟨rfl, rfl, rfl, rfl, rfl⟩ rfl rfl rfl rfl rfl (by kernel_rfl) Try.func9 (by kernel_rfl)
    (of_decide_eq_true (by kernel_rfl)) (by unfold Func.isWrapper; first | (rw [if_pos (by decide +kernel)]; kernel_rfl) | (rw [if_neg (by decide +kernel)]; exact ⟨rfl, rfl⟩))
    (fun os started H enc _ => ownerRuns_lifted os started H enc)
end Go.Proofs.Ytlmaflhfedbmdaa

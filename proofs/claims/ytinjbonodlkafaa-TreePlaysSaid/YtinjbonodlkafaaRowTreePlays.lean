/- For every input the call of TreePlays returns true, and what was there reads as it did. No condition. -/
import Derived.Test.YtinjbonodlkafaaRows
import Derived.Test.YtinjbonodlkafaaRow
import Derived.Test.YtinjbonodlkafaaLaw05P
set_option linter.unusedVariables false
set_option linter.unusedSimpArgs false
namespace Go.Proofs.Ytinjbonodlkafaa
open Go Go.RowKit Go.ChangeShapes Go.WideShapes

theorem own : ownKnob Try.prog.godebug = none := by kernel_rfl
theorem laidOut : laidOutB Try.prog = true := by kernel_rfl

theorem opens_tact : Opens Try.prog 68 tactRp :=
  (Opens.struct (e := prodRp (intRp .i64) (prodRp (intRp .i64) boolRp)) Try.underlying68 (by kernel_rfl)
    (OpensAt.cons (t := 3) (by kernel_rfl) (.int Try.underlying3 (by kernel_rfl)) (OpensAt.cons (t := 3) (by kernel_rfl) (.int Try.underlying3 (by kernel_rfl)) (OpensAt.last (t := 4) (by kernel_rfl) (.bool Try.underlying4 (by kernel_rfl)))))).imp rfl
    (by rintro w cs ⟨x, y, z⟩ ⟨c1, c2, rfl, ⟨rfl, h1⟩, ⟨c3, c4, rfl, ⟨rfl, h2⟩, ⟨rfl, _⟩⟩⟩; exact ⟨⟨x, y, z⟩, rfl, h1, h2⟩)
theorem opens_tacts : Opens Try.prog 63 (slRp tactRp) := .slice Try.underlying63 (by kernel_rfl) opens_tact (by decide)

set_option maxRecDepth 100000 in
theorem treePlays_lifted (os : Os) (started : os.Started) (H : Type) (enc : TypeId × Value → H) :
    ReturnsInHanded {} Try.checked os 8 .any (Rows.treePlaysSpec.pre6 enc Try.prog Try.f8 [] false) (Rows.treePlaysSpec.post enc Try.prog Try.f8 false true false false) := by
  refine law_row (C := Try.checked) (tb := 4) own started (by kernel_rfl) Try.func8
    (ChangeSpec.witness6 (enc := enc) (C := Try.checked) false ⟨#[], #[.slice none 0 0, .int .i64 0, .int .i64 0], []⟩ 8 (by kernel_rfl) (by kernel_rfl) (by kernel_rfl) (by kernel_rfl))
    laidOut (by kernel_rfl) rfl Try.underlying4 rfl (fun ds hd => by match ds, hd with | [_, _, _], _ => rfl) ?_
  intro W base args ds p hval hA hsz
  have hA' : DataW.TrodAll enc Try.prog W 0 (fun _ => true) true [63, 3, 3] args.toList ds p := hA
  obtain ⟨v0, vs0, d0, ds0, p0, q0, hargs, rfl, rfl, h0, r0⟩ := trodAll_cons hA'
  obtain ⟨v1, vs1, d1, ds1, p1, q1, rfl, rfl, rfl, h1, r1⟩ := trodAll_cons r0
  obtain ⟨v2, vs2, d2, ds2, p2, q2, rfl, rfl, rfl, h2, r2⟩ := trodAll_cons r1
  obtain ⟨rfl, rfl, rfl⟩ := trodAll_nil r2
  obtain rfl : args = #[v0, v1, v2] := by cases args; simp_all
  obtain ⟨l, a_l, c_l, e0, h_l⟩ := opens_tacts.arg h0
  obtain rfl := one_slice Try.underlying63 (hval 0 63 v0 rfl rfl) e0
  obtain ⟨x, e1, b_x⟩ := (Opens.int (P := Try.prog) Try.underlying3 (by kernel_rfl)).arg h1
  obtain rfl := one_int Try.underlying3 (hval 1 3 v1 rfl rfl) e1
  obtain ⟨y, e2, b_y⟩ := (Opens.int (P := Try.prog) Try.underlying3 (by kernel_rfl)).arg h2
  obtain rfl := one_int Try.underlying3 (hval 2 3 v2 rfl rfl) e2
  exact play05 W a_l c_l l x y h_l b_x b_y (Nat.le_trans h_l.le h_l.max)

theorem treePlays_holds : Rows.TreePlaysSaid :=
  OpenClaim.holds_of_wide 8 Try.f8 rfl rfl rfl rfl rfl rfl rfl ⟨rfl, rfl, rfl, rfl, rfl⟩ rfl rfl rfl rfl rfl (by kernel_rfl) Try.func8 (by kernel_rfl)
    (of_decide_eq_true (by kernel_rfl)) (by unfold Func.isWrapper; first | (rw [if_pos (by decide +kernel)]; kernel_rfl) | (rw [if_neg (by decide +kernel)]; exact ⟨rfl, rfl⟩))
    (fun os started H enc _ => treePlays_lifted os started H enc)

end Go.Proofs.Ytinjbonodlkafaa

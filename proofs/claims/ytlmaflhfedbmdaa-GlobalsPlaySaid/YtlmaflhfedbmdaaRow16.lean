/- For every input the calls of GlobalsPlay and of GlobalsApart return true, and what was there reads as it did: the rows of layer 16. No condition. -/
import Derived.Test.YtlmaflhfedbmdaaRows
import Derived.Test.YtlmaflhfedbmdaaRow
import Derived.Test.YtlmaflhfedbmdaaLaw16
set_option linter.unusedVariables false
set_option linter.unusedSimpArgs false
namespace Go.Proofs.Ytlmaflhfedbmdaa
open Go Go.RowKit Go.ChangeShapes Go.WideShapes

theorem own : ownKnob Try.prog.godebug = none := by kernel_rfl
theorem laidOut : laidOutB Try.prog = true := by kernel_rfl

theorem opens_pairs : Opens Try.prog 22 (slRp (pairRp .u64)) :=
  .slice Try.underlying22 (by kernel_rfl)
    ((Opens.array (e := prodRp (intRp .u64) (intRp .u64)) Try.underlying32 (by kernel_rfl)
      (OpensAt.cons (t := 23) (by kernel_rfl) (.int Try.underlying23 (by kernel_rfl)) (OpensAt.last (t := 23) (by kernel_rfl) (.int Try.underlying23 (by kernel_rfl))))).imp rfl
      (by rintro w cs ⟨x, y⟩ ⟨c1, c2, rfl, ⟨rfl, h1⟩, ⟨rfl, h2⟩⟩; exact ⟨(x, y), rfl, h1, h2⟩)) (by decide)

set_option maxRecDepth 100000 in
theorem globalsPlay_lifted (os : Os) (started : os.Started) (H : Type) (enc : TypeId × Value → H) :
    ReturnsInHanded {} Try.checked os 3 .any (Rows.globalsPlaySpec.pre6 enc Try.prog Try.f3 [] false) (Rows.globalsPlaySpec.post enc Try.prog Try.f3 false true false false) := by
  refine law_row (C := Try.checked) (tb := 4) own started (by kernel_rfl) Try.func3
    (ChangeSpec.witness6 (enc := enc) (C := Try.checked) false ⟨#[], #[.int .i64 0, .slice none 0 0, .int .u64 0], []⟩ 8 (by kernel_rfl) (by kernel_rfl) (by kernel_rfl) (by kernel_rfl))
    laidOut (by kernel_rfl) rfl Try.underlying4 rfl (fun ds hd => by match ds, hd with | [_, _, _], _ => rfl) ?_
  intro W base args ds p hval hA hsz
  have hA' : DataW.TrodAll enc Try.prog W 0 (fun _ => true) true [3, 22, 23] args.toList ds p := hA
  obtain ⟨v0, vs0, d0, ds0, p0, q0, hargs, rfl, rfl, h0, r0⟩ := trodAll_cons hA'
  obtain ⟨v1, vs1, d1, ds1, p1, q1, rfl, rfl, rfl, h1, r1⟩ := trodAll_cons r0
  obtain ⟨v2, vs2, d2, ds2, p2, q2, rfl, rfl, rfl, h2, r2⟩ := trodAll_cons r1
  obtain ⟨rfl, rfl, rfl⟩ := trodAll_nil r2
  obtain rfl : args = #[v0, v1, v2] := by cases args; simp_all
  obtain ⟨x0, e0, b0⟩ := (Opens.int (P := Try.prog) Try.underlying3 (by kernel_rfl)).arg h0
  obtain rfl := one_int Try.underlying3 (hval 0 3 v0 rfl rfl) e0
  obtain ⟨l, a, c, e1, hl⟩ := opens_pairs.arg h1
  obtain rfl := one_slice Try.underlying22 (hval 1 22 v1 rfl rfl) e1
  obtain ⟨x2, e2, b2⟩ := (Opens.int (P := Try.prog) Try.underlying23 (by kernel_rfl)).arg h2
  obtain rfl := one_int Try.underlying23 (hval 2 23 v2 rfl rfl) e2
  exact play16 W x0 x2 a c l hl b2 b0

theorem globalsPlay_holds : Rows.GlobalsPlaySaid :=
  OpenClaim.holds_of_wide 3 Try.f3 rfl rfl rfl rfl rfl rfl rfl ⟨rfl, rfl, rfl, rfl, rfl⟩ rfl rfl rfl rfl rfl (by kernel_rfl) Try.func3 (by kernel_rfl)
    (of_decide_eq_true (by kernel_rfl)) (by unfold Func.isWrapper; first | (rw [if_pos (by decide +kernel)]; kernel_rfl) | (rw [if_neg (by decide +kernel)]; exact ⟨rfl, rfl⟩))
    (fun os started H enc _ => globalsPlay_lifted os started H enc)

theorem opens_four : Opens Try.prog 44 (prodRp (intRp .u64) (prodRp (intRp .u64) (prodRp (intRp .u64) (intRp .u64)))) :=
  Opens.array Try.underlying44 (by kernel_rfl)
    (OpensAt.cons (t := 23) (by kernel_rfl) (.int Try.underlying23 (by kernel_rfl)) (OpensAt.cons (t := 23) (by kernel_rfl) (.int Try.underlying23 (by kernel_rfl))
      (OpensAt.cons (t := 23) (by kernel_rfl) (.int Try.underlying23 (by kernel_rfl)) (OpensAt.last (t := 23) (by kernel_rfl) (.int Try.underlying23 (by kernel_rfl))))))

set_option maxRecDepth 100000 in
theorem globalsApart_lifted (os : Os) (started : os.Started) (H : Type) (enc : TypeId × Value → H) :
    ReturnsInHanded {} Try.checked os 4 .any (Rows.globalsApartSpec.pre6 enc Try.prog Try.f4 [] false) (Rows.globalsApartSpec.post enc Try.prog Try.f4 false true false false) := by
  refine law_row (C := Try.checked) (tb := 4) own started (by kernel_rfl) Try.func4
    (ChangeSpec.witness6 (enc := enc) (C := Try.checked) false ⟨#[], #[.int .u8 0, .agg #[.int .u64 0, .int .u64 0, .int .u64 0, .int .u64 0]], []⟩ 8 (by kernel_rfl) (by kernel_rfl) (by kernel_rfl) (by kernel_rfl))
    laidOut (by kernel_rfl) rfl Try.underlying4 rfl (fun ds hd => by match ds, hd with | [_, _], _ => rfl) ?_
  intro W base args ds p hval hA hsz
  have hA' : DataW.TrodAll enc Try.prog W 0 (fun _ => true) true [5, 44] args.toList ds p := hA
  obtain ⟨v0, vs0, d0, ds0, p0, q0, hargs, rfl, rfl, h0, r0⟩ := trodAll_cons hA'
  obtain ⟨v1, vs1, d1, ds1, p1, q1, rfl, rfl, rfl, h1, r1⟩ := trodAll_cons r0
  obtain ⟨rfl, rfl, rfl⟩ := trodAll_nil r1
  obtain rfl : args = #[v0, v1] := by cases args; simp_all
  obtain ⟨x0, e0, b0⟩ := (Opens.int (P := Try.prog) Try.underlying5 (by kernel_rfl)).arg h0
  obtain rfl := one_int Try.underlying5 (hval 0 5 v0 rfl rfl) e0
  obtain ⟨⟨y0, y1, y2, y3⟩, c1, c2, e1, ⟨rfl, k0⟩, c3, c4, rfl, ⟨rfl, k1⟩, c5, c6, rfl, ⟨rfl, k2⟩, ⟨rfl, k3⟩⟩ := opens_four.arg h1
  obtain rfl := agg_array Try.underlying44 (hval 1 44 v1 rfl rfl) e1
  exact apart16 W x0 y0 y1 y2 y3 b0.1 b0.2 k0 k1 k2 k3

theorem globalsApart_holds : Rows.GlobalsApartSaid :=
  OpenClaim.holds_of_wide 4 Try.f4 rfl rfl rfl rfl rfl rfl rfl ⟨rfl, rfl, rfl, rfl, rfl⟩ rfl rfl rfl rfl rfl (by kernel_rfl) Try.func4 (by kernel_rfl)
    (of_decide_eq_true (by kernel_rfl)) (by unfold Func.isWrapper; first | (rw [if_pos (by decide +kernel)]; kernel_rfl) | (rw [if_neg (by decide +kernel)]; exact ⟨rfl, rfl⟩))
    (fun os started H enc _ => globalsApart_lifted os started H enc)
end Go.Proofs.Ytlmaflhfedbmdaa

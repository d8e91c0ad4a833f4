/- For every input the call of SweepScalars returns true, and what was there reads as it did; the variable what as the program's text lays it. -/
import Derived.Test.YtdmhenanikkabaaDoorCards
import Derived.Test.YtdmhenanikkabaaDoorWhat
import Derived.Test.YtdmhenanikkabaaDoorLaw18S
set_option linter.unusedVariables false
set_option linter.unusedSimpArgs false
namespace Go.Proofs.YtdmhenanikkabaaDoor
open Go Go.RowKit Go.ChangeShapes Go.WideShapes

theorem opens_head : Opens Tryd.prog 27 (prodRp boolRp (prodRp (intRp .i64) (prodRp (intRp .i64) (intRp .i64)))) :=
  Opens.struct Tryd.underlying27 (by kernel_rfl)
    (OpensAt.cons (t := 4) (by kernel_rfl) (.bool Tryd.underlying4 (by kernel_rfl)) (OpensAt.cons (t := 3) (by kernel_rfl) (.int Tryd.underlying3 (by kernel_rfl)) (OpensAt.cons (t := 3) (by kernel_rfl) (.int Tryd.underlying3 (by kernel_rfl)) (OpensAt.last (t := 3) (by kernel_rfl) (.int Tryd.underlying3 (by kernel_rfl))))))
theorem opens_kinds : Opens Tryd.prog 28 (slRp (intRp .i64)) := .slice Tryd.underlying28 (by kernel_rfl) (.int Tryd.underlying3 (by kernel_rfl)) (by decide)
theorem opens_words : Opens Tryd.prog 23 (slRp (intRp .u64)) := .slice Tryd.underlying23 (by kernel_rfl) (.int Tryd.underlying36 (by kernel_rfl)) (by decide)
theorem opens_object : Opens Tryd.prog 30 objRp :=
  (Opens.struct (e := prodRp (intRp .i64) (prodRp (intRp .i64) (prodRp (prodRp boolRp (prodRp (intRp .i64) (prodRp (intRp .i64) (intRp .i64)))) (prodRp (slRp (intRp .i64)) (slRp (intRp .u64)))))) Tryd.underlying30 (by kernel_rfl)
    (OpensAt.cons (t := 3) (by kernel_rfl) (.int Tryd.underlying3 (by kernel_rfl)) (OpensAt.cons (t := 3) (by kernel_rfl) (.int Tryd.underlying3 (by kernel_rfl)) (OpensAt.cons (t := 27) (by kernel_rfl) opens_head (OpensAt.cons (t := 28) (by kernel_rfl) opens_kinds (OpensAt.last (t := 23) (by kernel_rfl) opens_words)))))).imp rfl
    (by
      rintro w cs ⟨x, y, ⟨b, k, t, n⟩, ks, vs⟩ ⟨c1, c2, rfl, ⟨rfl, h1⟩, ⟨c3, c4, rfl, ⟨rfl, h2⟩, ⟨c5, c6, rfl, ⟨c7, c8, rfl, ⟨rfl, _⟩, ⟨c9, c10, rfl, ⟨rfl, _⟩, ⟨c11, c12, rfl, ⟨rfl, _⟩, ⟨rfl, _⟩⟩⟩⟩, ⟨c13, c14, rfl, ⟨ka, kc, rfl, h3⟩, ⟨va, vc, rfl, h4⟩⟩⟩⟩⟩
      exact ⟨⟨x, y, b, k, t, n, ka, kc, va, vc, ks, vs⟩, rfl, h1, h2, h3, h4⟩)
theorem opens_objects : Opens Tryd.prog 22 (slRp objRp) := .slice Tryd.underlying22 (by kernel_rfl) opens_object (by decide)


set_option maxRecDepth 100000 in
theorem sweepScalars_lifted (os : Os) (started : os.Started) (H : Type) (enc : TypeId × Value → H) :
    ReturnsInHanded {} Tryd.checked os 4 .any (fun w args => (Rows.sweepScalarsSpec.pre enc Tryd.prog Tryd.f4 [] false w args ∧ laidMetH Tryd.prog laidN w) ∧ sizedMet enc Tryd.prog Tryd.f4 (OpenSpec.ofChange Rows.sweepScalarsSpec) false w args) (Rows.sweepScalarsSpec.post enc Tryd.prog Tryd.f4 false true false false) := by
  refine law_row_laid (C := Tryd.checked) (tb := 4) (X := fun w _ => laidMetH Tryd.prog laidN w) (fun _ _ _ hh h => h.of_heap hh) own started (by kernel_rfl) Tryd.func4
    (ChangeSpec.witness_shaped (enc := enc) (C := Tryd.checked) (os := os) (X := fun w _ => laidMetH Tryd.prog laidN w) false (World.doorLaid Tryd.prog 400 os) #[.slice none 0 0, .slice none 0 0, .int .u64 0] 8 rfl (World.shaped_of_RefB (by kernel_rfl) (by kernel_rfl)) (by kernel_rfl) (by kernel_rfl) (by kernel_rfl) (door_met os _))
    laidOut (by kernel_rfl) rfl Tryd.underlying4 rfl (fun ds hd => by match ds, hd with | [_, _, _], _ => rfl) ?_
  intro W base args ds p hval hA hL
  have hN := nw_of_laid hL
  have hA' : DataW.TrodAll enc Tryd.prog W 0 (fun _ => true) true [22, 23, 36] args.toList ds p := hA
  obtain ⟨v0, vs0, d0, ds0, p0, q0, hargs, rfl, rfl, h0, r0⟩ := trodAll_cons hA'
  obtain ⟨v1, vs1, d1, ds1, p1, q1, rfl, rfl, rfl, h1, r1⟩ := trodAll_cons r0
  obtain ⟨v2, vs2, d2, ds2, p2, q2, rfl, rfl, rfl, h2, r2⟩ := trodAll_cons r1
  obtain ⟨rfl, rfl, rfl⟩ := trodAll_nil r2
  obtain rfl : args = #[v0, v1, v2] := by cases args; simp_all
  obtain ⟨l, a_l, c_l, e0, h_l⟩ := opens_objects.arg h0
  obtain rfl := one_slice Tryd.underlying22 (hval 0 22 v0 rfl rfl) e0
  obtain ⟨s, a_s, c_s, e1, h_s⟩ := opens_words.arg h1
  obtain rfl := one_slice Tryd.underlying23 (hval 1 23 v1 rfl rfl) e1
  obtain ⟨y, e2, b_y⟩ := (Opens.int (P := Tryd.prog) Tryd.underlying36 (by kernel_rfl)).arg h2
  obtain rfl := one_int Tryd.underlying36 (hval 2 36 v2 rfl rfl) e2
  exact scalars18 W a_l a_s c_l c_s l s y h_l h_s b_y hN (Nat.le_trans h_l.le h_l.max) (Nat.le_trans h_s.le h_s.max)

theorem sweepScalars_holds : Rows.SweepScalarsSaid :=
  OpenClaim.holds_of_wide 4 Tryd.f4 rfl rfl rfl rfl rfl rfl rfl ⟨rfl, rfl, rfl, rfl, rfl⟩ rfl rfl rfl rfl rfl (by kernel_rfl) Tryd.func4 (by kernel_rfl)
    (of_decide_eq_true (by kernel_rfl)) (by unfold Func.isWrapper; first | (rw [if_pos (by decide +kernel)]; kernel_rfl) | (rw [if_neg (by decide +kernel)]; exact ⟨rfl, rfl⟩))
    (fun os started H enc _ => sweepScalars_lifted os started H enc)

theorem sweepScalars_card : Rows.SweepScalarsCardSaid :=
  Claim7.holds_tied_plain_at .later [] [.data] true _ false
    sweepScalars_holds (fun _ h => by cases h) (by kernel_rfl) (fun _ h => by cases h) sweepScalars_row_tie rfl ⟨rfl, rfl⟩ (by kernel_rfl) rfl
    (fun f fn hf hfn => by
      obtain rfl : f = 4 := Option.some.inj ((show Tryd.prog.funcNamed "kraal/kraallaw18.SweepScalars" = some 4 by kernel_rfl).symm.trans hf) |>.symm
      obtain rfl : fn = Tryd.f4 := (Option.some.inj (Tryd.func4.symm.trans hfn)).symm
      exact ⟨by kernel_rfl, fun j t ht => by
        have ht' : ([22, 23, 36] : List TypeId).toArray[j]? = some t := ht
        have hm : t ∈ [22, 23, 36] := by simpa using Array.mem_of_getElem? ht'
        have hall : ([22, 23, 36].all fun u => !Tryd.prog.wantsStandIn u) = true := by kernel_rfl
        exact (show Tryd.prog.wantsStandIn t = false by simpa using List.all_eq_true.1 hall t hm)⟩)
    (by kernel_rfl)
end Go.Proofs.YtdmhenanikkabaaDoor

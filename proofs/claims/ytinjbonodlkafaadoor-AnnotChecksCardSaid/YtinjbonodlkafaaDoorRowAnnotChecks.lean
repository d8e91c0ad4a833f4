/- For every input the call of AnnotChecks returns true, and what was there reads as it did; the variable what as the program's text lays it. -/
import Derived.Test.YtinjbonodlkafaaDoorCards
import Derived.Test.YtinjbonodlkafaaDoorWhat
import Derived.Test.YtinjbonodlkafaaDoorLaw14C
set_option linter.unusedVariables false
set_option linter.unusedSimpArgs false
namespace Go.Proofs.YtinjbonodlkafaaDoor
open Go Go.RowKit Go.ChangeShapes Go.WideShapes

theorem opens_tact : Opens Tryd.prog 47 tactRp :=
  (Opens.struct (e := prodRp (intRp .i64) (prodRp (intRp .i64) boolRp)) Tryd.underlying47 (by kernel_rfl)
    (OpensAt.cons (t := 3) (by kernel_rfl) (.int Tryd.underlying3 (by kernel_rfl)) (OpensAt.cons (t := 3) (by kernel_rfl) (.int Tryd.underlying3 (by kernel_rfl)) (OpensAt.last (t := 4) (by kernel_rfl) (.bool Tryd.underlying4 (by kernel_rfl)))))).imp rfl
    (by rintro w cs ⟨x, y, z⟩ ⟨c1, c2, rfl, ⟨rfl, h1⟩, ⟨c3, c4, rfl, ⟨rfl, h2⟩, ⟨rfl, _⟩⟩⟩; exact ⟨⟨x, y, z⟩, rfl, h1, h2⟩)
theorem opens_tacts : Opens Tryd.prog 22 (slRp tactRp) := .slice Tryd.underlying22 (by kernel_rfl) opens_tact (by decide)

theorem opens_two : Opens Tryd.prog 35 (prodRp (intRp .i64) (intRp .i64)) :=
  Opens.array Tryd.underlying35 (by kernel_rfl) (OpensAt.cons (t := 3) (by kernel_rfl) (.int Tryd.underlying3 (by kernel_rfl)) (OpensAt.last (t := 3) (by kernel_rfl) (.int Tryd.underlying3 (by kernel_rfl))))


set_option maxRecDepth 100000 in
theorem annotChecks_lifted (os : Os) (started : os.Started) (H : Type) (enc : TypeId × Value → H) :
    ReturnsInHanded {} Tryd.checked os 4 .any (fun w args => (Rows.annotChecksSpec.pre enc Tryd.prog Tryd.f4 [] false w args ∧ laidMetH Tryd.prog laidN w) ∧ sizedMet enc Tryd.prog Tryd.f4 (OpenSpec.ofChange Rows.annotChecksSpec) false w args) (Rows.annotChecksSpec.post enc Tryd.prog Tryd.f4 false true false false) := by
  refine law_row_laid (C := Tryd.checked) (tb := 4) (X := fun w _ => laidMetH Tryd.prog laidN w) (fun _ _ _ hh h => h.of_heap hh) own started (by kernel_rfl) Tryd.func4
    (ChangeSpec.witness_shaped (enc := enc) (C := Tryd.checked) (os := os) (X := fun w _ => laidMetH Tryd.prog laidN w) false (World.doorLaid Tryd.prog 400 os) #[.slice none 0 0, .int .i64 0, .agg #[.int .i64 0, .int .i64 0]] 8 rfl (World.shaped_of_RefB (by kernel_rfl) (by kernel_rfl)) (by kernel_rfl) (by kernel_rfl) (by kernel_rfl) (door_met os _))
    laidOut (by kernel_rfl) rfl Tryd.underlying4 rfl (fun ds hd => by match ds, hd with | [_, _, _], _ => rfl) ?_
  intro W base args ds p hval hA hL
  have hN := nw_of_laid hL
  have hA' : DataW.TrodAll enc Tryd.prog W 0 (fun _ => true) true [22, 3, 35] args.toList ds p := hA
  obtain ⟨v0, vs0, d0, ds0, p0, q0, hargs, rfl, rfl, h0, r0⟩ := trodAll_cons hA'
  obtain ⟨v1, vs1, d1, ds1, p1, q1, rfl, rfl, rfl, h1, r1⟩ := trodAll_cons r0
  obtain ⟨v2, vs2, d2, ds2, p2, q2, rfl, rfl, rfl, h2, r2⟩ := trodAll_cons r1
  obtain ⟨rfl, rfl, rfl⟩ := trodAll_nil r2
  obtain rfl : args = #[v0, v1, v2] := by cases args; simp_all
  obtain ⟨l, a_l, c_l, e0, h_l⟩ := opens_tacts.arg h0
  obtain rfl := one_slice Tryd.underlying22 (hval 0 22 v0 rfl rfl) e0
  obtain ⟨k, e1, b_k⟩ := (Opens.int (P := Tryd.prog) Tryd.underlying3 (by kernel_rfl)).arg h1
  obtain rfl := one_int Tryd.underlying3 (hval 1 3 v1 rfl rfl) e1
  obtain ⟨⟨y0, y1⟩, s1, s2, e2, ⟨rfl, k0⟩, ⟨rfl, k1⟩⟩ := opens_two.arg h2
  obtain rfl := agg_array Tryd.underlying35 (hval 2 35 v2 rfl rfl) e2
  exact checks14 W a_l c_l l k y0 y1 h_l b_k hN (Nat.le_trans h_l.le h_l.max)

theorem annotChecks_holds : Rows.AnnotChecksSaid :=
  OpenClaim.holds_of_wide 4 Tryd.f4 rfl rfl rfl rfl rfl rfl rfl ⟨rfl, rfl, rfl, rfl, rfl⟩ rfl rfl rfl rfl rfl (by kernel_rfl) Tryd.func4 (by kernel_rfl)
    (of_decide_eq_true (by kernel_rfl)) (by unfold Func.isWrapper; first | (rw [if_pos (by decide +kernel)]; kernel_rfl) | (rw [if_neg (by decide +kernel)]; exact ⟨rfl, rfl⟩))
    (fun os started H enc _ => annotChecks_lifted os started H enc)

theorem annotChecks_card : Rows.AnnotChecksCardSaid :=
  Claim7.holds_tied_plain_at .later [] [.data] true _ false
    annotChecks_holds (fun _ h => by cases h) (by kernel_rfl) (fun _ h => by cases h) annotChecks_row_tie rfl ⟨rfl, rfl⟩ (by kernel_rfl) rfl
    (fun f fn hf hfn => by
      obtain rfl : f = 4 := Option.some.inj ((show Tryd.prog.funcNamed "kraal/kraallaw14.AnnotChecks" = some 4 by kernel_rfl).symm.trans hf) |>.symm
      obtain rfl : fn = Tryd.f4 := (Option.some.inj (Tryd.func4.symm.trans hfn)).symm
      exact ⟨by kernel_rfl, fun j t ht => by
        have ht' : ([22, 3, 35] : List TypeId).toArray[j]? = some t := ht
        have hm : t ∈ [22, 3, 35] := by simpa using Array.mem_of_getElem? ht'
        have hall : ([22, 3, 35].all fun u => !Tryd.prog.wantsStandIn u) = true := by kernel_rfl
        exact (show Tryd.prog.wantsStandIn t = false by simpa using List.all_eq_true.1 hall t hm)⟩)
    (by kernel_rfl)
end Go.Proofs.YtinjbonodlkafaaDoor

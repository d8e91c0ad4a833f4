/- For every input the call of PlanApart returns true, and what was there reads as it did; the variable nowhere as the program's text lays it. -/
import Derived.Test.YtlmaflhfedbmdaaDoorCards
import Derived.Test.YtlmaflhfedbmdaaDoorNowhere
import Derived.Test.YtlmaflhfedbmdaaDoorLawPlanApart
set_option linter.unusedVariables false
set_option linter.unusedSimpArgs false
namespace Go.Proofs.YtlmaflhfedbmdaaDoor
open Go Go.RowKit Go.ChangeShapes Go.WideShapes

theorem opens_ints : Opens Tryd.prog 39 (slRp (intRp .i64)) := .slice Tryd.underlying39 (by kernel_rfl) (.int Tryd.underlying3 (by kernel_rfl)) (by decide)


set_option maxRecDepth 100000 in
theorem planApart_lifted (os : Os) (started : os.Started) (H : Type) (enc : TypeId × Value → H) :
    ReturnsInHanded {} Tryd.checked os 5 .any (fun w args => (Rows.planApartSpec.pre enc Tryd.prog Tryd.f5 [] false w args ∧ laidMetH Tryd.prog laidN w) ∧ sizedMet enc Tryd.prog Tryd.f5 (OpenSpec.ofChange Rows.planApartSpec) false w args) (Rows.planApartSpec.post enc Tryd.prog Tryd.f5 false true false false) := by
  refine law_row_laid (C := Tryd.checked) (tb := 4) (X := fun w _ => laidMetH Tryd.prog laidN w) (fun _ _ _ hh h => h.of_heap hh) own started (by kernel_rfl) Tryd.func5
    (ChangeSpec.witness_shaped (enc := enc) (C := Tryd.checked) (os := os) (X := fun w _ => laidMetH Tryd.prog laidN w) false (World.doorLaid Tryd.prog 400 os) #[.slice none 0 0] 8 rfl (World.shaped_of_RefB (by kernel_rfl) (by kernel_rfl)) (by kernel_rfl) (by kernel_rfl) (by kernel_rfl) (door_met os _))
    laidOut (by kernel_rfl) rfl Tryd.underlying4 rfl (fun ds hd => by match ds, hd with | [_], _ => rfl) ?_
  intro W base args ds p hval hA hL
  have hN := nw_of_laid hL
  have hA' : DataW.TrodAll enc Tryd.prog W 0 (fun _ => true) true [39] args.toList ds p := hA
  obtain ⟨v0, vs0, d0, ds0, p0, q0, hargs, rfl, rfl, h0, r0⟩ := trodAll_cons hA'
  obtain ⟨rfl, rfl, rfl⟩ := trodAll_nil r0
  obtain rfl : args = #[v0] := by cases args; simp_all
  obtain ⟨l, a_l, c_l, e0, h_l⟩ := opens_ints.arg h0
  obtain rfl := one_slice Tryd.underlying39 (hval 0 39 v0 rfl rfl) e0
  exact apart10 W a_l c_l l h_l hN (Nat.le_trans h_l.le h_l.max)

theorem planApart_holds : Rows.PlanApartSaid :=
  OpenClaim.holds_of_wide 5 Tryd.f5 rfl rfl rfl rfl rfl rfl rfl ⟨rfl, rfl, rfl, rfl, rfl⟩ rfl rfl rfl rfl rfl (by kernel_rfl) Tryd.func5 (by kernel_rfl)
    (of_decide_eq_true (by kernel_rfl)) (by unfold Func.isWrapper; first | (rw [if_pos (by decide +kernel)]; kernel_rfl) | (rw [if_neg (by decide +kernel)]; exact ⟨rfl, rfl⟩))
    (fun os started H enc _ => planApart_lifted os started H enc)

theorem planApart_card : Rows.PlanApartCardSaid :=
  Claim7.holds_tied_plain_at .later [] [.data] true _ false
    planApart_holds (fun _ h => by cases h) (by kernel_rfl) (fun _ h => by cases h) planApart_row_tie rfl ⟨rfl, rfl⟩ (by kernel_rfl) rfl
    (fun f fn hf hfn => by
      obtain rfl : f = 5 := Option.some.inj ((show Tryd.prog.funcNamed "kraal/kraallaw10.PlanApart" = some 5 by kernel_rfl).symm.trans hf) |>.symm
      obtain rfl : fn = Tryd.f5 := (Option.some.inj (Tryd.func5.symm.trans hfn)).symm
      exact ⟨by kernel_rfl, fun j t ht => by
        have ht' : ([39] : List TypeId).toArray[j]? = some t := ht
        have hm : t ∈ [39] := by simpa using Array.mem_of_getElem? ht'
        have hall : ([39].all fun u => !Tryd.prog.wantsStandIn u) = true := by kernel_rfl
        exact (show Tryd.prog.wantsStandIn t = false by simpa using List.all_eq_true.1 hall t hm)⟩)
    (by kernel_rfl)
end Go.Proofs.YtlmaflhfedbmdaaDoor

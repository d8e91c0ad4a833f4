/- For every input the call of ArenaNone returns true, and what was there reads as it did; the variable nowhere as the program's text lays it. -/
import Derived.Test.YtpldogmamifdpaaDoorCards
import Derived.Test.YtpldogmamifdpaaDoorNowhere
import Derived.Test.YtpldogmamifdpaaDoorLaw11
set_option linter.unusedVariables false
set_option linter.unusedSimpArgs false
namespace Go.Proofs.YtpldogmamifdpaaDoor
open Go Go.RowKit Go.ChangeShapes Go.WideShapes


set_option maxRecDepth 100000 in
theorem arenaNone_lifted (os : Os) (started : os.Started) (H : Type) (enc : TypeId × Value → H) :
    ReturnsInHanded {} Tryd.checked os 3 .any (fun w args => (Rows.arenaNoneSpec.pre enc Tryd.prog Tryd.f3 [] false w args ∧ laidMetH Tryd.prog laidN w) ∧ sizedMet enc Tryd.prog Tryd.f3 (OpenSpec.ofChange Rows.arenaNoneSpec) false w args) (Rows.arenaNoneSpec.post enc Tryd.prog Tryd.f3 false true false false) := by
  refine law_row_laid (C := Tryd.checked) (tb := 4) (X := fun w _ => laidMetH Tryd.prog laidN w) (fun _ _ _ hh h => h.of_heap hh) own started (by kernel_rfl) Tryd.func3
    (ChangeSpec.witness_shaped (enc := enc) (C := Tryd.checked) (os := os) (X := fun w _ => laidMetH Tryd.prog laidN w) false (World.doorLaid Tryd.prog 400 os) #[.int .i64 0] 8 rfl (World.shaped_of_RefB (by kernel_rfl) (by kernel_rfl)) (by kernel_rfl) (by kernel_rfl) (by kernel_rfl) (door_met os _))
    laidOut (by kernel_rfl) rfl Tryd.underlying4 rfl (fun ds hd => by match ds, hd with | [_], _ => rfl) ?_
  intro W base args ds p hval hA hL
  have hN := nw_of_laid hL
  have hA' : DataW.TrodAll enc Tryd.prog W 0 (fun _ => true) true [3] args.toList ds p := hA
  obtain ⟨v0, vs0, d0, ds0, p0, q0, hargs, rfl, rfl, h0, r0⟩ := trodAll_cons hA'
  obtain ⟨rfl, rfl, rfl⟩ := trodAll_nil r0
  obtain rfl : args = #[v0] := by cases args; simp_all
  obtain ⟨n, e0, b_n⟩ := (Opens.int (P := Tryd.prog) Tryd.underlying3 (by kernel_rfl)).arg h0
  obtain rfl := one_int Tryd.underlying3 (hval 0 3 v0 rfl rfl) e0
  exact none11 W n hN b_n

theorem arenaNone_holds : Rows.ArenaNoneSaid :=
  OpenClaim.holds_of_wide 3 Tryd.f3 rfl rfl rfl rfl rfl rfl rfl ⟨rfl, rfl, rfl, rfl, rfl⟩ rfl rfl rfl rfl rfl (by kernel_rfl) Tryd.func3 (by kernel_rfl)
    (of_decide_eq_true (by kernel_rfl)) (by unfold Func.isWrapper; first | (rw [if_pos (by decide +kernel)]; kernel_rfl) | (rw [if_neg (by decide +kernel)]; exact ⟨rfl, rfl⟩))
    (fun os started H enc _ => arenaNone_lifted os started H enc)

theorem arenaNone_card : Rows.ArenaNoneCardSaid :=
  Claim7.holds_tied_plain_at .later [] [.data] true _ false
    arenaNone_holds (fun _ h => by cases h) (by kernel_rfl) (fun _ h => by cases h) arenaNone_row_tie rfl ⟨rfl, rfl⟩ (by kernel_rfl) rfl
    (fun f fn hf hfn => by
      obtain rfl : f = 3 := Option.some.inj ((show Tryd.prog.funcNamed "kraal/kraallaw11.ArenaNone" = some 3 by kernel_rfl).symm.trans hf) |>.symm
      obtain rfl : fn = Tryd.f3 := (Option.some.inj (Tryd.func3.symm.trans hfn)).symm
      exact ⟨by kernel_rfl, fun j t ht => by
        have ht' : ([3] : List TypeId).toArray[j]? = some t := ht
        have hm : t ∈ [3] := by simpa using Array.mem_of_getElem? ht'
        have hall : ([3].all fun u => !Tryd.prog.wantsStandIn u) = true := by kernel_rfl
        exact (show Tryd.prog.wantsStandIn t = false by simpa using List.all_eq_true.1 hall t hm)⟩)
    (by kernel_rfl)
end Go.Proofs.YtpldogmamifdpaaDoor

/- The listed variable 'nowhere': what the condition gives the walks; the door's own heap meets it. -/
import Derived.Test.YtpldogmamifdpaaDoorRows
import Derived.Test.YtpldogmamifdpaaDoorTie
import Derived.Test.YtpldogmamifdpaaDoorLaid
import Derived.Test.YtpldogmamifdpaaDoorPlan
import Derived.SevenTiedAt
set_option linter.unusedVariables false
set_option linter.unusedSimpArgs false
namespace Go.Proofs.YtpldogmamifdpaaDoor
open Go Go.RowKit Go.ChangeShapes Go.WideShapes

theorem own : ownKnob Tryd.prog.godebug = none := by kernel_rfl
theorem laidOut : laidOutB Tryd.prog = true := by kernel_rfl
theorem gN : Tryd.prog.globalNamed "kraal/plan.nowhere" = some 0 := by kernel_rfl
theorem tN : (Tryd.prog.globals[0]?).map (·.type) = some 101 := by kernel_rfl
theorem cI : Tryd.prog.cellsOf 3 = 1 := by kernel_rfl

abbrev laidN : List (String × DataW Unit) := [("kraal/plan.nowhere", Rows.laid_kraal_plan_nowhere)]

/-- The door's own heap meets the condition. -/
theorem door_met (os : Os) (args : Array Value) : laidMetH Tryd.prog laidN ((World.doorLaid Tryd.prog 400 os).forCall (fun _ _ => 0) ⟨#[], args, []⟩).memory :=
  laidMetH_of_parts3 (fuel := 8) (laidMet_of_run' 8 (by kernel_rfl) (by kernel_rfl)) (by kernel_rfl) (by kernel_rfl)

/-- What the condition gives the walks. -/
theorem nw_of_laid {W : World} (h : laidMetH Tryd.prog laidN W) : Nw W := by
  rw [MakeChecks.laidMetH_plain _ _ _ (by kernel_rfl)] at h
  obtain ⟨ps, ⟨g0, t0, cs0, f0, p0, q0, hg0, ht0, hv0, hd0, _, _⟩, _, _⟩ := h
  obtain rfl := Option.some.inj (gN.symm.trans hg0)
  obtain rfl := Option.some.inj (tN.symm.trans ht0)
  obtain ⟨y0, y1, n, hx, hl, h0, h1⟩ := trod_struct2 Tryd.underlying101 hd0
  rw [cI] at h0 h1
  obtain ⟨k0, e0, r0, _⟩ := DataW.trod_int Tryd.underlying3 h0
  obtain ⟨k1, e1, r1, _⟩ := DataW.trod_int Tryd.underlying3 h1
  rw [r0, r1] at hx
  simp only [Rows.laid_kraal_plan_nowhere, Prod.mk.injEq, DataW.agg.injEq, List.cons.injEq, DataW.lit.injEq, Lit.int.injEq, true_and, and_true] at hx
  obtain ⟨⟨rfl, rfl⟩, _⟩ := hx
  have c0 := World.var?_cell hg0 hv0 0
  have c1 := World.var?_cell hg0 hv0 1
  simp only at e0 e1
  match hcs : cs0.toList, e0, e1 with
  | [], e0, _ => simp at e0
  | [a], e0, e1 => simp at e1
  | a :: b :: r, e0, e1 =>
    simp at e0 e1
    have z0 : cs0[0]? = some a := by rw [← Array.getElem?_toList, hcs]; rfl
    have z1 : cs0[1]? = some b := by rw [← Array.getElem?_toList, hcs]; rfl
    exact ⟨by rw [c0, z0, e0], by rw [c1, z1, e1]⟩
end Go.Proofs.YtpldogmamifdpaaDoor

/- The listed variable 'what': what the condition gives the walks; the door's own heap meets it. -/
import Derived.Test.YtdmhenanikkabaaDoorRows
import Derived.Test.YtdmhenanikkabaaDoorTie
import Derived.Test.YtdmhenanikkabaaDoorLaid
import Derived.Test.YtdmhenanikkabaaDoorDesc
import Derived.SevenTiedAt
set_option linter.unusedVariables false
set_option linter.unusedSimpArgs false
namespace Go.Proofs.YtdmhenanikkabaaDoor
open Go Go.RowKit Go.ChangeShapes Go.WideShapes

theorem own : ownKnob Tryd.prog.godebug = none := by kernel_rfl
theorem laidOut : laidOutB Tryd.prog = true := by kernel_rfl
theorem gN : Tryd.prog.globalNamed "kraal/desc.what" = some 0 := by kernel_rfl
theorem tN : (Tryd.prog.globals[0]?).map (·.type) = some 69 := by kernel_rfl
theorem cI : Tryd.prog.cellsOf 3 = 1 := by kernel_rfl

abbrev laidN : List (String × DataW Unit) := [("kraal/desc.what", Rows.laid_kraal_desc_what)]

/-- The door's own heap meets the condition. -/
theorem door_met (os : Os) (args : Array Value) : laidMetH Tryd.prog laidN ((World.doorLaid Tryd.prog 400 os).forCall (fun _ _ => 0) ⟨#[], args, []⟩).memory :=
  laidMetH_of_parts3 (fuel := 8) (laidMet_of_run' 8 (by kernel_rfl) (by kernel_rfl)) (by kernel_rfl) (by kernel_rfl)

/-- What the condition gives the walks. -/
theorem nw_of_laid {W : World} (h : laidMetH Tryd.prog laidN W) : Wt W := by
  rw [MakeChecks.laidMetH_plain _ _ _ (by kernel_rfl)] at h
  obtain ⟨ps, ⟨g0, t0, cs0, f0, p0, q0, hg0, ht0, hv0, hd0, _, _⟩, _, _⟩ := h
  obtain rfl := Option.some.inj (gN.symm.trans hg0)
  obtain rfl := Option.some.inj (tN.symm.trans ht0)
  obtain ⟨xs, n, _, hx, _, hl, hi⟩ := Go.DataW.trod_array Tryd.underlying69 hd0
  rw [cI] at hi
  have h0 := hi 0 (by omega)
  have h1 := hi 1 (by omega)
  have h2 := hi 2 (by omega)
  have h3 := hi 3 (by omega)
  match xs, hl with
  | [x0, x1, x2, x3], _ =>
    simp only [List.getElem?_cons_zero, List.getElem?_cons_succ, Nat.mul_one] at h0 h1 h2 h3
    obtain ⟨k0, e0, r0, _⟩ := DataW.trod_int Tryd.underlying3 h0
    obtain ⟨k1, e1, r1, _⟩ := DataW.trod_int Tryd.underlying3 h1
    obtain ⟨k2, e2, r2, _⟩ := DataW.trod_int Tryd.underlying3 h2
    obtain ⟨k3, e3, r3, _⟩ := DataW.trod_int Tryd.underlying3 h3
    simp only [List.map_cons, List.map_nil, r0, r1, r2, r3] at hx
    simp only [Rows.laid_kraal_desc_what, Prod.mk.injEq, DataW.agg.injEq, List.cons.injEq, DataW.lit.injEq, Lit.int.injEq, true_and, and_true] at hx
    obtain ⟨⟨rfl, rfl, rfl, rfl⟩, _⟩ := hx
    have c0 := World.var?_cell hg0 hv0 0
    have c1 := World.var?_cell hg0 hv0 1
    have c2 := World.var?_cell hg0 hv0 2
    have c3 := World.var?_cell hg0 hv0 3
    have get : ∀ (i : Nat) (v : Value), (cs0.toList.drop i).take 1 = [v] → cs0[i]? = some v := fun i v hv => by
      rw [← Array.getElem?_toList]
      have : ((cs0.toList.drop i).take 1)[0]? = some v := by rw [hv]; rfl
      rw [List.getElem?_take] at this
      simpa using this
    exact ⟨by rw [c0]; exact get 0 _ e0, by rw [c1]; exact get 1 _ e1, by rw [c2]; exact get 2 _ e2, by rw [c3]; exact get 3 _ e3⟩
end Go.Proofs.YtdmhenanikkabaaDoor

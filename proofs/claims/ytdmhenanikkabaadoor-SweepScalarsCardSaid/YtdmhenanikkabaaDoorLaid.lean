/- The frame of a law's row that lists package-level variables ('laid'). No program text. -/
import Derived.Test.YtdmhenanikkabaaDoorRow
import Derived.LaidMore
import Derived.LaidLaws
import Derived.ProofKit
import Derived.OpenShut
import Derived.Stop.Joined
import Derived.ChangeSame
set_option linter.unusedVariables false
set_option linter.unusedSimpArgs false
namespace Go.Proofs.YtdmhenanikkabaaDoor
open Go Go.RowKit Go.ChangeShapes Go.WideShapes

theorem law_row_laid {C : Checked} {os : Os} {H : Type} {enc : TypeId × Value → H} {f : FuncId} {fn : Func} {s : ChangeSpec} {tb : TypeId} {X : World → Array Value → Prop}
    (hX : ∀ (w w' : World) (args : Array Value), w.heap = w'.heap → X w args → X w' args)
    (own : ownKnob C.prog.godebug = none) (started : os.Started) (noInit : C.prog.inits.idxOf? f = none) (hfn : C.prog.funcs[f]? = some fn)
    (witness : ∃ (w : World) (tape : Tape) (i : Input), w.os = os ∧ (w.forCall tape i).Shaped C.prog ∧ i.vars = [] ∧ Input.okWide C.prog (w.forCall tape i) .any w.heap.size f i ∧
      ((s.pre enc C.prog fn [] false (w.forCall tape i).memory i.args ∧ X (w.forCall tape i).memory i.args) ∧ sizedMet enc C.prog fn (OpenSpec.ofChange s) false (w.forCall tape i).memory i.args) ∧ ({} : Assume).holds C.prog (lone (Frame.enter C.prog f i.args .normal) [] (w.forCall tape i)))
    (laid : laidOutB C.prog = true) (hty : (fn.params.toList.all fun t => C.prog.readableRec t && decide (t < C.prog.types.size)) = true)
    (hres : fn.resultTypes = #[tb]) (hbool : C.prog.underlying tb = some .bool) (hvars : s.vars = [])
    (hs : ∀ ds : List (DataW H), ds.length = fn.params.toList.length → s.fn H ds = { results := [.lit (.bool true)], args := ds })
    (walk : ∀ (W : World) (base : Nat) (args : Array Value) (ds : List (DataW H)) (p : List MemPlace),
      (∀ (j : Nat) t v, fn.params[j]? = some t → args[j]? = some v → Value.okWide C.prog W .any base t v) →
      DataW.TrodAll enc C.prog W 0 (fun _ => true) true fn.params.toList args.toList ds p → X W args →
      Calls C.prog f args W fun e W' => e = .returned (.bool true) ∧ Ch No W W') :
    ReturnsInHanded {} C os f .any (fun w args => (s.pre enc C.prog fn [] false w args ∧ X w args) ∧ sizedMet enc C.prog fn (OpenSpec.ofChange s) false w args) (s.post enc C.prog fn false true false false) := by
  refine returnsInHanded_of_change_and (C := C) (X := X) hX own started noInit hfn witness ?_
  intro W base args ds gs before hval hW hcnd hsz0 hL _
  have hW' := hW
  obtain ⟨p, q, hA, hV, rfl, hfz, hnd⟩ := hW
  rw [hvars] at hV
  obtain ⟨rfl, rfl⟩ := trodVars_none hV
  refine (walk W base args ds p hval hA hL).mono fun e W' ⟨he, hch⟩ => ⟨_, he, ?_⟩
  have bel := hch.below
  have hlen := trodAll_length hA
  have hr : ∀ t ∈ fn.params.toList, C.prog.readableRec t = true ∧ t < C.prog.types.size := by
    intro t ht
    have := List.all_eq_true.1 hty t ht
    simpa using this
  have hfn' := hs (ds ++ []) (by rw [List.append_nil]; exact hlen)
  refine ⟨ds, [], _, [], p, [], hW', ?_, ?_, ?_, bel.frame _, fun h => by cases h⟩
  · rw [hfn', hres]
    exact ⟨[], [], shut_bool hbool _, rfl, rfl⟩
  · rw [hfn', List.append_nil]
    exact trodAll_stays laid bel hr hA
  · rw [hfn', hvars]
    exact (rfl : ([] : List MemPlace) = [])
end Go.Proofs.YtdmhenanikkabaaDoor

/- A drawn region in a function that ranges over an iterator. -/
import Derived.Test.YtdmhenanikkabaaDoorSeqR
set_option linter.unusedVariables false
set_option linter.unusedSimpArgs false
namespace Go.Proofs.YtdmhenanikkabaaDoor
open Go Go.RowKit Go.Shelf

attribute [local go_sem] Oper.semAt_some

def onlyN (K : Act → World → Prop) : Exit → Act → World → Prop
  | .normal, a, w => K a w
  | _, _, _ => False
theorem wpIn_onlyN {F : Fence} {n : Nat} {P : Program} {c : Code} {Q : Exit → Act → World → Prop} {a : Act} {w : World} (h : c.wpIn F n P (onlyN (Q .normal)) a w) : c.wpIn F n P Q a w :=
  wpIn_mono h (by
    rintro e a' w' hh
    cases e with
    | normal => exact hh
    | _ => exact hh.elim)
def LocAt (ls : List (Nat × Obj)) (S : World → Nat → Prop) (w : World) : Prop := ∀ x ∈ ls, w.heap[x.1]? = some x.2 ∧ ¬ S w x.1
theorem LocAt.keeps {ls : List (Nat × Obj)} {S : World → Nat → Prop} {w w' : World} (h : LocAt ls S w) (hk : KeepsBut S w w') : LocAt ls S w' := fun x hx =>
  ⟨hk.same _ _ (h x hx).1 (h x hx).2, fun z => (hk.foot _ z).elim (h x hx).2 (fun q => by have := heap_lt (h x hx).1; omega)⟩
theorem LocAt.ch0 {ls : List (Nat × Obj)} {S : World → Nat → Prop} {w w' : World} (h : LocAt ls S w) (hc : Ch No w w') (hS : ∀ k, S w' k → S w k) : LocAt ls S w' := fun x hx =>
  ⟨hc.heap (h x hx).1 (fun q => q), fun z => (h x hx).2 (hS _ z)⟩
theorem Ch.grow0 {w w' : World} (h : Ch No w w') : w.grownBy w' none := ⟨h.os, h.tape, h.output, h.size, fun k hk _ => h.block k hk (fun q => q)⟩
end Go.Proofs.YtdmhenanikkabaaDoor

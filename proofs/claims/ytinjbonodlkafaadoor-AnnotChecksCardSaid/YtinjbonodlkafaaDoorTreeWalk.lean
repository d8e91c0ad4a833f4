/- Layer 5 (tree): the walk, an iterator that ranges over itself. -/
import Derived.Test.YtinjbonodlkafaaDoorTree
import Derived.Test.YtinjbonodlkafaaDoorSeqR
set_option linter.unusedVariables false
set_option linter.unusedSimpArgs false
namespace Go.Proofs.YtinjbonodlkafaaDoor
open Go Go.RowKit Go.Shelf

theorem tree_walk (w : World) (t : Nat) (id : Int) :
    Calls Tryd.prog 23 #[.pointer (some ⟨t, 0, none⟩), .int .i64 id] w fun e w' =>
      e = .returned (.func (.func 34) #[] #[.pointer (some ⟨w.heap.size, 0, none⟩), .pointer (some ⟨w.heap.size + 1, 0, none⟩)]) ∧ w' = (w.alloc (.cells #[.pointer (some ⟨t, 0, none⟩)] 24)).alloc (.cells #[.int .i64 id] 3) := by
  go_enter Tryd.func23, Tryd.ntmps23
  go_wp2_with fail
  go_ret
  exact ⟨by simp, rfl⟩

/-- Objects that lie where they lay, and that no round turns. -/
def LocAt (ls : List (Nat × Obj)) (S : World → Nat → Prop) (w : World) : Prop := ∀ x ∈ ls, w.heap[x.1]? = some x.2 ∧ ¬ S w x.1
theorem LocAt.keeps {ls : List (Nat × Obj)} {S : World → Nat → Prop} {w w' : World} (h : LocAt ls S w) (hk : KeepsBut S w w') : LocAt ls S w' := fun x hx =>
  ⟨hk.same _ _ (h x hx).1 (h x hx).2, fun z => (hk.foot _ z).elim (h x hx).2 (fun q => by have := heap_lt (h x hx).1; omega)⟩
theorem LocAt.ch0 {ls : List (Nat × Obj)} {S : World → Nat → Prop} {w w' : World} (h : LocAt ls S w) (hc : Ch No w w') (hS : ∀ k, S w' k → S w k) : LocAt ls S w' := fun x hx =>
  ⟨hc.heap (h x hx).1 (fun q => q), fun z => (h x hx).2 (hS _ z)⟩
theorem LocAt.cons {ls : List (Nat × Obj)} {S : World → Nat → Prop} {w : World} {b : Nat} {o : Obj} (h1 : w.heap[b]? = some o) (h2 : ¬ S w b) (h : LocAt ls S w) : LocAt ((b, o) :: ls) S w := fun x hx => by
  rcases List.mem_cons.1 hx with rfl | hx
  · exact ⟨h1, h2⟩
  · exact h x hx
theorem LocAt.lt {ls : List (Nat × Obj)} {S : World → Nat → Prop} {w : World} (h : LocAt ls S w) : ∀ x ∈ ls, x.1 < w.heap.size := fun x hx => heap_lt (h x hx).1
theorem Ch.grow0 {w w' : World} (h : Ch No w w') : w.grownBy w' none := ⟨h.os, h.tape, h.output, h.size, fun k hk _ => h.block k hk (fun q => q)⟩
theorem cell_block {w : World} {b i : Nat} {v : Value} (h : w.cell? ⟨b, i, none⟩ = some v) : ∃ o, w.heap[b]? = some o := by
  cases e : w.heap[b]? with
  | none => simp [World.cell?, e] at h
  | some o => exact ⟨o, rfl⟩
theorem cell_same {w w' : World} {b : Nat} (h : w'.heap[b]? = w.heap[b]?) (i : Nat) : w'.cell? ⟨b, i, none⟩ = w.cell? ⟨b, i, none⟩ := by
  simp only [World.cell?, h]

/-- The marks of the loops over iterators, as the function leaves. -/
theorem marks_leave {n : Nat} {P : Program} {fn : Func} {tmps : Array Value} {R : Ending → World → Prop} {v : Value} (hres : ∀ w, (results fn tmps).run P w = .ok v w) {B : Nat} {J : World → Prop}
    (hown : ∀ w r, J w → B ≤ r → w.heap[r]? = some (.deferred (some [])) → J (w.putObj r (.deferred none))) (hfin : ∀ w, J w → R (.returned v) w) :
    ∀ (rs : List Nat) (w : World), rs.Nodup → (∀ r ∈ rs, B ≤ r ∧ w.heap[r]? = some (.deferred (some []))) → J w → LeavesInM Fence.wide n P fn tmps R (rs.map fun r => { target := .collected r, args := #[] }) .returning w
  | [], w, _, _, hJ => ⟨v, hres w, hfin w hJ⟩
  | r :: rs, w, hn, hr, hJ => by
    obtain ⟨h1, h2⟩ := List.nodup_cons.1 hn
    have h3 := hr r (by simp)
    refine ⟨by simp, .inl ⟨r, _, rfl, run_takeDeferred h3.2, marks_leave hres hown hfin rs _ h2 (fun q hq => ?_) (hown w r hJ h3.1 h3.2)⟩⟩
    have h4 := hr q (List.mem_cons_of_mem _ hq)
    exact ⟨h4.1, (World.putObj_heap_other (fun (e : q = r) => h1 (e ▸ hq))).trans h4.2⟩

/-- What the walk reads. -/
structure WalkA (t m : Nat) (L : TRows) (B1 B2 : Nat) (id : Int) (W : World) : Prop where
  tree : TreeAt W t m L
  b1 : W.cell? ⟨B1, 0, none⟩ = some (.pointer (some ⟨t, 0, none⟩))
  b2 : W.cell? ⟨B2, 0, none⟩ = some (.int .i64 id)
end Go.Proofs.YtinjbonodlkafaaDoor

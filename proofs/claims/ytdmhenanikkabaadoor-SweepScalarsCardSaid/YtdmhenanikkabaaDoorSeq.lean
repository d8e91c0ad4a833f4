/- A loop over an iterator whose rounds all go on: one law for the caller ('wp_seq'), and what it asks of the iterator ('Seq': at what stands between two rounds, by the caller's own invariant). No program text. -/
import Derived.Test.YtdmhenanikkabaaDoorKit
import Derived.RangeFuncNested
import Derived.RangeFuncBound
import Derived.RangeFuncCalls
import Derived.RangeFuncLeaves
import Derived.RangeFuncWrites
import Derived.Shelf.Abstract
import Derived.Shelf.RegionOpen
import Derived.OwnWalkIn
import Derived.TacticsInMore
import Derived.LoopNIn
import Derived.LoopIn
import Derived.WalkMore
set_option linter.unusedVariables false
set_option linter.unusedSimpArgs false
namespace Go.Proofs.YtdmhenanikkabaaDoor
open Go Go.RowKit Go.Shelf

/-- The iterator hands on all of xs, one behind the other, to whatever body, if between two rounds A holds of what has come. -/
def Seq {α : Type} (F : Fence) (n : Nat) (P : Program) (g : Nat) (lb : Array Value) (encs : α → Array Value) (A : List α → World → Prop) (xs : List α) : Prop :=
  ∀ (l : Nat) (J : List α → World → Prop) (W : World), (∀ pre W1, J pre W1 → A pre W1) → J [] W →
    (∀ pre x rest W1, xs = pre ++ x :: rest → J pre W1 → YieldAt F (n - 1) P l (encs x) W1 fun e W' => e = .returned (.bool true) ∧ J (pre ++ [x]) W') →
    CallsIn F n P g (#[.func (.yield l) #[] #[]] ++ lb) W fun e W' => (∃ v, e = .returned v) ∧ J xs W'

/-- How a round ends: it goes on. -/
def goesOn (B : Nat) (R : World → Prop) (W : World) : Exit → Act → World → Prop
  | .normal, _, W' => KeepsFrom B W W' ∧ R W'
  | _, _, _ => False

/-- A step within the blocks that were there, or new cells. -/
theorem keepsFrom_ch {F : Nat → Prop} {B : Nat} {W W' : World} (h : Ch F W W') (hF : ∀ k, F k → k < B) : KeepsFrom B W W' :=
  ⟨h.size, fun k o hB hk _ => h.heap hk (fun q => by have := hF k q; omega)⟩

theorem wp_seq {F : Fence} {n : Nat} {P : Program} {α : Type} {g : Operand} {ps : Array Tmp} {assign body : Code} {Q : Exit → Act → World → Prop} {a : Act} {w : World}
    (hro : F.round = none) (h1 : 1 ≤ n) {gf : Nat} {lb : Array Value} (hg : a.eval g = .func (.func gf) #[] lb) (hFg : F.fn gf) (eg : ∀ args w, (callFunc gf args).run P w = .ok (.enter gf args) w)
    {encs : α → Array Value} {A : List α → World → Prop} {xs : List α} (hseq : Seq F (n - 1) P gf lb encs A xs) (hps : ∀ x, (encs x).size = ps.size)
    (I : List α → World → Prop) (hA : ∀ pre W, I pre W → A pre W) (hI : OwnFrom w.heap.size I) (h0 : I [] w) (a₁ : α → Act)
    (hassign : ∀ (l : Nat) (x : α) (W : World) (K : Act → World → Prop), K (a₁ x) W →
      assign.wpIn (F.inRound l) (n - 1 - 1) P (Exit.then K (fun _ _ _ => False)) { tmps := (ps.zip (encs x)).foldl (fun t (p, v) => t.setIfInBounds p v) a.tmps, defers := [] } W)
    (hbody : ∀ (l : Nat) (pre : List α) (x : α) (rest : List α) (W : World), xs = pre ++ x :: rest → w.heap.size ≤ W.heap.size → I pre W →
      body.wpIn (F.inRound l) (n - 1 - 1) P (goesOn w.heap.size (I (pre ++ [x])) W) (a₁ x) W)
    (hdone : ∀ (D : Nat) (W : World), w.heap.size ≤ D → I xs W → W.heap[D]? = some (.deferred (some [])) → Q .normal { a with defers := { target := .collected D, args := #[] } :: a.defers } W) :
    (Code.rangeFunc g ps assign body).wpIn F n P Q a w := by
  refine wpIn_rangeFunc fun fn hfn => ?_
  rw [hro]
  let D := w.heap.size
  let L := w.heap.size + 1
  let rec0 : LoopState → Loop := fun st => { state := st, pending := none, fn, tmps := a.tmps, params := ps, assign, body, defers := D }
  obtain ⟨W1, hW1⟩ : ∃ W1, (w.alloc (.deferred (some []))).alloc (.loop (rec0 .ready)) = W1 := ⟨_, rfl⟩
  let J : List α → World → Prop := fun pre W => I pre W ∧ W.heap[L]? = some (.loop (rec0 .ready)) ∧ W.heap[D]? = some (.deferred (some []))
  have j0 : J [] W1 := by
    refine ⟨?_, ?_, ?_⟩ <;> rw [← hW1]
    · exact hI.alloc _ (hI.alloc _ h0)
    · have := World.alloc_heap_new (w.alloc (.deferred (some []))) (.loop (rec0 .ready))
      rwa [World.size_alloc] at this
    · exact (Below.heap_alloc _ _ _ (by simp [D])).trans (World.alloc_heap_new w _)
  have hround : ∀ pre x rest W, xs = pre ++ x :: rest → J pre W → YieldAt F (n - 1 - 1) P L (encs x) W fun e W' => e = .returned (.bool true) ∧ J (pre ++ [x]) W' := by
    rintro pre x rest W hx ⟨hi, hl, hd⟩
    have hlt := heap_lt hl
    refine ⟨fn, _, assign, body, run_yield (P := P) (args := encs x) hl (hps x), roundIn_of_wpIn hfn (hassign L x W _ ⟨_, run_beginRound hl rfl, ?_⟩)⟩
    have l2 : (W.putObj L (.loop (rec0 .busy))).heap[L]? = some (.loop (rec0 .busy)) := World.putObj_heap_same hlt
    have d2 : (W.putObj L (.loop (rec0 .busy))).heap[D]? = some (.deferred (some [])) := (World.putObj_heap_other (by simp [D, L])).trans hd
    refine wpIn_mono (hbody L pre x rest _ hx (by simp; show w.heap.size ≤ W.heap.size; simp only [L] at hlt; omega) (hI.putObj _ hi (by simp [L]) hl rfl)) ?_
    rintro e a3 W3 hp
    cases e with
    | normal =>
      obtain ⟨hk, hi3⟩ := hp
      have l3 := hk.same _ _ (by simp [L]) l2 rfl
      have d3 := hk.same _ _ (Nat.le_refl _) d2 rfl
      exact ⟨_, _, run_endRound (P := P) none l3, rfl, hI.putObj _ hi3 (by simp [L]) l3 rfl, World.putObj_heap_same (heap_lt l3), (World.putObj_heap_other (by simp [D, L])).trans d3⟩
    | _ => exact hp.elim
  refine ⟨L, [{ target := .collected D, args := #[] }], W1, { target := .fn (.func gf) lb, args := #[.func (.yield L) #[] #[]] }, W1, gf, #[.func (.yield L) #[] #[]] ++ lb, W1, ?_, ?_, ?_, ?_, fun _ => h1, ?_⟩
  · rw [← hW1]; exact run_enterLoop_outer _ _ _ _ _
  · simp only [resolve, hg]
    simp [go_sem]
  · intro f' hf'; simp [Target.leads] at hf'; subst hf'; exact hFg
  · simp [invoke, go_sem, eg]
  · refine (hseq L J W1 (fun pre W hj => hA _ _ hj.1) j0 hround).mono ?_
    rintro e W2 ⟨⟨v, rfl⟩, hi, hl, hd⟩
    exact ⟨none, _, run_endLoop (P := P) hl (by simp [rec0]), hdone D _ (Nat.le_refl _) (hI.putObj _ hi (by simp [L]) hl rfl) ((World.putObj_heap_other (by simp [D, L])).trans hd)⟩

/-- A call off the fence, in a round. -/
theorem inRound_calls {n : Nat} {P : Program} {l : Nat} {f : FuncId} {args : Array Value} {w : World} {R : Ending → World → Prop} (h : Calls P f args w R) : CallsIn (Fence.wide.inRound l) n P f args w R := CallsIn.inRound l (callsIn_wide.2 h)

/-- What a step turns within F, and new blocks, is OwnFrom any place at or behind the start. -/
theorem ownFrom_ch {β : Type} {F : Nat → Prop} {B : Nat} {w₀ : World} (hB : w₀.heap.size ≤ B) : OwnFrom B (fun (_ : β) W => Ch F w₀ W) :=
  fun _ _ _ _ hs hg hr => hs.grown hg (fun k e => .inl (Nat.le_trans hB (hr k e).1))
/-- A block of cells stays. -/
theorem grown_cells {B : Nat} {W W' : World} {row : Option Nat} (hg : W.grownBy W' row) (hr : ∀ r, row = some r → B ≤ r ∧ ∃ o : Obj, W.heap[r]? = some o ∧ o.isCells = false) {b : Nat} {cs : Array Value} {t : TypeId} {f : Nat × Nat} (h : W.heap[b]? = some (.cells cs t f)) : W'.heap[b]? = some (.cells cs t f) := by
  refine (hg.block b (heap_lt h) (fun e => ?_)).trans h
  obtain ⟨_, o, ho, hc⟩ := hr b e.symm
  rw [h] at ho
  cases ho
  cases hc
/-- A block with labels, and a label, off the fence. -/
theorem wpIn_scopeW {n : Nat} {P : Program} {c : Code} {Q : Exit → Act → World → Prop} {a : Act} {w : World} (h : c.wpIn Fence.wide n P (Exit.noGoto Q) a w) : (Code.scope c).wpIn Fence.wide n P Q a w := wpIn_wide.2 (wp_scope_straight (wpIn_wide.1 h))
theorem wpIn_labelW {n l : Nat} {P : Program} {Q : Exit → Act → World → Prop} {a : Act} {w : World} (h : Q .normal a w) : (Code.label l).wpIn Fence.wide n P Q a w := wpIn_wide.2 (wp_label h)
end Go.Proofs.YtdmhenanikkabaaDoor

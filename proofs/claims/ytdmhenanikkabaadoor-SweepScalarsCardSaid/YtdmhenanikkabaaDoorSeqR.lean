/- A loop over an iterator that lays memory of its own between two rounds (a recursive one, say): what the two owe one another ('SeqR'), and one law for the caller ('wp_seqR'). No program text. -/
import Derived.Test.YtdmhenanikkabaaDoorSeq
set_option linter.unusedVariables false
set_option linter.unusedSimpArgs false
namespace Go.Proofs.YtdmhenanikkabaaDoor
open Go Go.RowKit Go.Shelf

/-- What the caller's invariant J minds, and which blocks its rounds turn (S): nothing that is laid anew; nothing that is no cells, from B on. -/
structure Foot {α : Type} (B : Nat) (J : List α → World → Prop) (S : World → Nat → Prop) : Prop where
  own : OwnFrom B J
  lt : ∀ pre W k, J pre W → S W k → k < W.heap.size
  st : ∀ pre W W' row, J pre W → W.grownBy W' row → (∀ r, row = some r → B ≤ r ∧ ∃ o : Obj, W.heap[r]? = some o ∧ o.isCells = false) → ∀ k, S W' k → S W k
theorem Foot.mono {α : Type} {B B' : Nat} {J : List α → World → Prop} {S : World → Nat → Prop} (h : Foot B J S) (hb : B ≤ B') : Foot B' J S :=
  ⟨fun s W W' row hs hg hr => h.own s W W' row hs hg (fun r e => ⟨Nat.le_trans hb (hr r e).1, (hr r e).2⟩), h.lt, fun pre W W' row hj hg hr => h.st pre W W' row hj hg (fun r e => ⟨Nat.le_trans hb (hr r e).1, (hr r e).2⟩)⟩

/-- A round turns nothing but what lies in S; S grows by new blocks alone. -/
structure KeepsBut (S : World → Nat → Prop) (W W' : World) : Prop where
  size : W.heap.size ≤ W'.heap.size
  same : ∀ k o, W.heap[k]? = some o → ¬ S W k → W'.heap[k]? = some o
  foot : ∀ k, S W' k → S W k ∨ W.heap.size ≤ k
theorem KeepsBut.refl (S : World → Nat → Prop) (W : World) : KeepsBut S W W := ⟨Nat.le_refl _, fun _ _ h _ => h, fun _ h => .inl h⟩
theorem KeepsBut.trans {S : World → Nat → Prop} {A B C : World} (h : KeepsBut S A B) (k : KeepsBut S B C) : KeepsBut S A C :=
  ⟨Nat.le_trans h.size k.size, fun i o hi hn => k.same i o (h.same i o hi hn) (fun hs => (h.foot i hs).elim hn (fun hl => by have := heap_lt hi; omega)),
   fun i hi => (k.foot i hi).elim (fun z => h.foot i z) (fun z => .inr (Nat.le_trans h.size z))⟩
/-- A cell that the round doesn't turn. -/
theorem KeepsBut.heap {S : World → Nat → Prop} {W W' : World} (h : KeepsBut S W W') {k : Nat} {o : Obj} (hk : W.heap[k]? = some o) (hn : ¬ S W k) : W'.heap[k]? = some o := h.same k o hk hn
theorem KeepsBut.ch {S : World → Nat → Prop} {W W' : World} {F : Nat → Prop} (hc : Ch F W W') (hF : ∀ k, F k → S W k) (hS : ∀ k, S W' k → S W k ∨ W.heap.size ≤ k) : KeepsBut S W W' :=
  ⟨hc.size, fun k o hk hn => hc.heap hk (fun z => hn (hF k z)), hS⟩

def SeqR {α : Type} (P : Program) (g : Nat) (lb : Array Value) (encs : α → Array Value) (A : World → Prop) (xs : List α) : Prop :=
  ∀ (l : Nat) (J : List α → World → Prop) (S : World → Nat → Prop) (W : World), Foot W.heap.size J S → (∀ pre W1, J pre W1 → A W1) → J [] W →
    (∀ pre x rest W1, xs = pre ++ x :: rest → W.heap.size ≤ W1.heap.size → J pre W1 → YieldAt Fence.wide 5 P l (encs x) W1 fun e W' => e = .returned (.bool true) ∧ J (pre ++ [x]) W' ∧ KeepsBut S W1 W') →
    CallsIn Fence.wide 6 P g (#[.func (.yield l) #[] #[]] ++ lb) W fun e W' => (∃ v, e = .returned v) ∧ J xs W'

def goesOnR (S : World → Nat → Prop) (R : World → Prop) (W : World) : Exit → Act → World → Prop
  | .normal, _, W' => KeepsBut S W W' ∧ R W'
  | _, _, _ => False

/-- A call of yield, whatever the level, in a round or not. -/
theorem YieldAt.lvl {m m' : Nat} {P : Program} {l : Nat} {args : Array Value} {W : World} {R : Ending → World → Prop} (h : YieldAt Fence.wide m P l args W R) : YieldAt Fence.wide m' P l args W R := by
  obtain ⟨fn, tmps, assign, body, hy, hR⟩ := h
  exact ⟨fn, tmps, assign, body, hy, hR.1, fun c cs _ => hR.2 c cs (room_wide _)⟩
theorem RoundIn.inRound {m m' : Nat} {P : Program} {l l' : Nat} {f : FuncId} {tmps : Array Value} {assign body : Code} {w : World} {R : Ending → World → Prop} (h : RoundIn Fence.wide m P l f tmps assign body w R) : RoundIn (Fence.wide.inRound l') m' P l f tmps assign body w R :=
  ⟨h.1, fun c cs _ => h.2 c cs (room_wide _)⟩

theorem wp_seqR {P : Program} {α : Type} {n : Nat} {g : Operand} {ps : Array Tmp} {assign body : Code} {Q : Exit → Act → World → Prop} {a : Act} {w : World}
    (h1 : 1 ≤ n) {gf : Nat} {lb : Array Value} (hg : a.eval g = .func (.func gf) #[] lb) (eg : ∀ args w, (callFunc gf args).run P w = .ok (.enter gf args) w)
    {encs : α → Array Value} {A : World → Prop} {xs : List α} (hseq : SeqR P gf lb encs A xs) (hps : ∀ x, (encs x).size = ps.size)
    (I : List α → World → Prop) (S : World → Nat → Prop) (hI : Foot w.heap.size I S) (hA : ∀ pre W, I pre W → A W) (h0 : I [] w) (a₁ : α → Act)
    (hassign : ∀ (l : Nat) (x : α) (W : World) (K : Act → World → Prop), K (a₁ x) W →
      assign.wpIn (Fence.wide.inRound l) 5 P (Exit.then K (fun _ _ _ => False)) { tmps := (ps.zip (encs x)).foldl (fun t (p, v) => t.setIfInBounds p v) a.tmps, defers := [] } W)
    (hbody : ∀ (l : Nat) (pre : List α) (x : α) (rest : List α) (W : World), xs = pre ++ x :: rest → w.heap.size ≤ W.heap.size → I pre W →
      body.wpIn (Fence.wide.inRound l) 5 P (goesOnR S (I (pre ++ [x])) W) (a₁ x) W)
    (hdone : ∀ (D : Nat) (W : World), w.heap.size ≤ D → I xs W → W.heap[D]? = some (.deferred (some [])) → ¬ S W D → Q .normal { a with defers := { target := .collected D, args := #[] } :: a.defers } W) :
    (Code.rangeFunc g ps assign body).wpIn Fence.wide n P Q a w := by
  refine wpIn_rangeFunc fun fn hfn => ?_
  rw [show Fence.wide.round = none from rfl]
  let D := w.heap.size
  let L := w.heap.size + 1
  let rec0 : LoopState → Loop := fun st => { state := st, pending := none, fn, tmps := a.tmps, params := ps, assign, body, defers := D }
  obtain ⟨W1, hW1⟩ : ∃ W1, (w.alloc (.deferred (some []))).alloc (.loop (rec0 .ready)) = W1 := ⟨_, rfl⟩
  have hsz1 : W1.heap.size = w.heap.size + 2 := by rw [← hW1]; simp
  let J : List α → World → Prop := fun pre W => I pre W ∧ W.heap[L]? = some (.loop (rec0 .ready)) ∧ W.heap[D]? = some (.deferred (some [])) ∧ ¬ S W L ∧ ¬ S W D
  have hS1 : ∀ k, S W1 k → S w k := fun k hk => by
    rw [← hW1] at hk
    have i1 := hI.own.alloc (.deferred (some [])) h0
    have s1 := hI.st [] _ _ none i1 (World.grownBy_alloc _ (.loop (rec0 .ready)) none) (fun r e => by cases e) k hk
    exact hI.st [] _ _ none h0 (World.grownBy_alloc _ (.deferred (some [])) none) (fun r e => by cases e) k s1
  have j0 : J [] W1 := by
    refine ⟨?_, ?_, ?_, ?_, ?_⟩
    · rw [← hW1]; exact hI.own.alloc _ (hI.own.alloc _ h0)
    · rw [← hW1]
      have := World.alloc_heap_new (w.alloc (.deferred (some []))) (.loop (rec0 .ready))
      rwa [World.size_alloc] at this
    · rw [← hW1]; exact (Below.heap_alloc _ _ _ (by simp [D])).trans (World.alloc_heap_new w _)
    · intro hk; have := hI.lt _ _ _ h0 (hS1 _ hk); simp only [L] at this; omega
    · intro hk; have := hI.lt _ _ _ h0 (hS1 _ hk); simp only [D] at this; omega
  have hFJ : Foot W1.heap.size J S := by
    have hM := hI.mono (B' := W1.heap.size) (by omega)
    refine ⟨fun s X Y row hs hg hr => ?_, fun pre X k hj hk => hI.lt _ _ _ hj.1 hk, fun pre X Y row hj hg hr => hM.st pre X Y row hj.1 hg hr⟩
    have hne : ∀ k, k < W1.heap.size → k < X.heap.size → Y.heap[k]? = X.heap[k]? := fun k h1 h2 => hg.block k h2 (fun e => by have := (hr k e.symm).1; omega)
    refine ⟨hM.own s X Y row hs.1 hg hr, (hne L (by simp only [L]; omega) (heap_lt hs.2.1)).trans hs.2.1, (hne D (by simp only [D]; omega) (heap_lt hs.2.2.1)).trans hs.2.2.1, fun z => hs.2.2.2.1 (hM.st s X Y row hs.1 hg hr _ z), fun z => hs.2.2.2.2 (hM.st s X Y row hs.1 hg hr _ z)⟩
  have hround : ∀ pre x rest W, xs = pre ++ x :: rest → W1.heap.size ≤ W.heap.size → J pre W → YieldAt Fence.wide 5 P L (encs x) W fun e W' => e = .returned (.bool true) ∧ J (pre ++ [x]) W' ∧ KeepsBut S W W' := by
    rintro pre x rest W hx hszW ⟨hi, hl, hd, hnl, hnd⟩
    have hlt := heap_lt hl
    refine ⟨fn, _, assign, body, run_yield (P := P) (args := encs x) hl (hps x), roundIn_of_wpIn hfn (hassign L x W _ ⟨_, run_beginRound hl rfl, ?_⟩)⟩
    have l2 : (W.putObj L (.loop (rec0 .busy))).heap[L]? = some (.loop (rec0 .busy)) := World.putObj_heap_same hlt
    have d2 : (W.putObj L (.loop (rec0 .busy))).heap[D]? = some (.deferred (some [])) := (World.putObj_heap_other (by simp [D, L])).trans hd
    have hgb := grownBy_putObj' W L (.loop (rec0 .busy))
    have hrb : ∀ r, some L = some r → w.heap.size ≤ r ∧ ∃ o : Obj, W.heap[r]? = some o ∧ o.isCells = false := fun r e => by cases e; exact ⟨by simp [L], _, hl, rfl⟩
    have hSb := hI.st pre W _ (some L) hi hgb hrb
    refine wpIn_mono (hbody L pre x rest _ hx (by simp; omega) (hI.own.putObj _ hi (by simp [L]) hl rfl)) ?_
    rintro e a3 W3 hp
    cases e with
    | normal =>
      obtain ⟨hk, hi3⟩ := hp
      have l3 := hk.same _ _ l2 (fun z => hnl (hSb _ z))
      have d3 := hk.same _ _ d2 (fun z => hnd (hSb _ z))
      have hsz3 : W.heap.size ≤ W3.heap.size := by have := hk.size; simpa using this
      have hgr := grownBy_putObj' W3 L (.loop (rec0 .ready))
      have hrr : ∀ r, some L = some r → w.heap.size ≤ r ∧ ∃ o : Obj, W3.heap[r]? = some o ∧ o.isCells = false := fun r e => by cases e; exact ⟨by simp [L], _, l3, rfl⟩
      have hSr := hI.st _ W3 _ (some L) hi3 hgr hrr
      have hft : ∀ k, S (W3.putObj L (.loop (rec0 .ready))) k → S W k ∨ W.heap.size ≤ k := fun k z => (hk.foot k (hSr k z)).imp (hSb k) (fun q => by simpa using q)
      refine ⟨_, _, run_endRound (P := P) none l3, rfl, ⟨hI.own.putObj _ hi3 (by simp [L]) l3 rfl, World.putObj_heap_same (heap_lt l3), (World.putObj_heap_other (by simp [D, L])).trans d3, fun z => (hft _ z).elim hnl (fun q => by have := heap_lt hl; omega), fun z => (hft _ z).elim hnd (fun q => by have := heap_lt hd; omega)⟩, ?_, fun k o hk0 hn => ?_, hft⟩
      · simp; omega
      · by_cases e : k = L
        · subst e
          rw [hl] at hk0
          cases hk0
          exact World.putObj_heap_same (heap_lt l3)
        · have h2 : (W.putObj L (.loop (rec0 .busy))).heap[k]? = some o := (World.putObj_heap_other e).trans hk0
          exact (World.putObj_heap_other e).trans (hk.same _ _ h2 (fun z => hn (hSb _ z)))
    | _ => exact hp.elim
  refine ⟨L, [{ target := .collected D, args := #[] }], W1, { target := .fn (.func gf) lb, args := #[.func (.yield L) #[] #[]] }, W1, gf, #[.func (.yield L) #[] #[]] ++ lb, W1, ?_, ?_, ?_, ?_, fun _ => h1, ?_⟩
  · rw [← hW1]; exact run_enterLoop_outer _ _ _ _ _
  · simp only [resolve, hg]
    simp [go_sem]
  · intro f' hf'; trivial
  · simp [invoke, go_sem, eg]
  · refine (callsIn_wide.2 (callsIn_wide.1 (hseq L J S W1 hFJ (fun pre W hj => hA _ _ hj.1) j0 hround))).mono ?_
    rintro e W2 ⟨⟨v, rfl⟩, hi, hl, hd, hnl, hnd⟩
    exact ⟨none, _, run_endLoop (P := P) hl (by simp [rec0]), hdone D _ (Nat.le_refl _) (hI.own.putObj _ hi (by simp [L]) hl rfl) ((World.putObj_heap_other (by simp [D, L])).trans hd) (fun z => hnd (hI.st _ W2 _ (some L) hi (grownBy_putObj' W2 L _) (fun r e => by cases e; exact ⟨by simp [L], _, hl, rfl⟩) _ z))⟩
end Go.Proofs.YtdmhenanikkabaaDoor

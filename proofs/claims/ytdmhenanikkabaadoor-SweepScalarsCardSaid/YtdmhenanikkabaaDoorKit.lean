/- Words of these proofs, over whatever program: what a call may turn ('Ch'), how lists and records are read in memory ('Rp', 'SlR'), rows that a call owns and appends to ('OwnR'). No program text. -/
import Derived.Test.YtdmhenanikkabaaDoorChecked
import Derived.WalkKit
import Derived.KernelRfl
import Derived.Deep.QuietTactic
import Derived.BigQuiet
import Derived.Deep.Draws
import Derived.Lib.Hide
import Derived.Laws.AppendOwnNone
import Derived.Laws.CopyOwn
import Derived.Deep.RegionLaw
import Derived.Deep.RegionHeld3
import Derived.WalkSmall
set_option linter.unusedVariables false
set_option linter.unusedSimpArgs false
namespace Go.Proofs.YtdmhenanikkabaaDoor
open Go Go.RowKit

/-! ### What may turn -/

/-- w' is w, but for new blocks, draws, and what lies in the blocks of F. -/
structure Ch (F : Nat → Prop) (w w' : World) : Prop where
  os : w'.os = w.os
  tape : w'.tape = w.tape
  output : w'.output = w.output
  size : w.heap.size ≤ w'.heap.size
  block : ∀ k, k < w.heap.size → ¬ F k → w'.heap[k]? = w.heap[k]?

/-- No block. -/
def No : Nat → Prop := fun _ => False
/-- One block; two. -/
def One (b : Nat) : Nat → Prop := fun k => k = b
def Two (b c : Nat) : Nat → Prop := fun k => k = b ∨ k = c

theorem Ch.refl (F : Nat → Prop) (w : World) : Ch F w w := ⟨rfl, rfl, rfl, Nat.le_refl _, fun _ _ _ => rfl⟩
theorem Ch.trans {F : Nat → Prop} {a b c : World} (h : Ch F a b) (k : Ch F b c) : Ch F a c :=
  ⟨k.os.trans h.os, k.tape.trans h.tape, k.output.trans h.output, Nat.le_trans h.size k.size,
   fun i hi hn => (k.block i (Nat.lt_of_lt_of_le hi h.size) hn).trans (h.block i hi hn)⟩
/-- A later step may turn what is new, too. -/
theorem Ch.andThen {F G : Nat → Prop} {a b c : World} (h : Ch F a b) (k : Ch G b c) (hg : ∀ i, G i → F i ∨ a.heap.size ≤ i) : Ch F a c :=
  ⟨k.os.trans h.os, k.tape.trans h.tape, k.output.trans h.output, Nat.le_trans h.size k.size,
   fun i hi hn => (k.block i (Nat.lt_of_lt_of_le hi h.size) (fun g => (hg i g).elim hn (fun q => by omega))).trans (h.block i hi hn)⟩
theorem Ch.mono {F G : Nat → Prop} {w w' : World} (h : Ch F w w') (hfg : ∀ k, F k → G k) : Ch G w w' :=
  ⟨h.os, h.tape, h.output, h.size, fun k hk hn => h.block k hk (fun f => hn (hfg k f))⟩
theorem Ch.ofNo {F : Nat → Prop} {w w' : World} (h : Ch No w w') : Ch F w w' := h.mono fun _ h => h.elim
theorem Ch.then0 {F : Nat → Prop} {a b c : World} (h : Ch F a b) (k : Ch No b c) : Ch F a c := h.trans k.ofNo
theorem Ch.drew {F : Nat → Prop} {a w : World} (h : Ch F a w) : Ch F a w.drew := ⟨h.os, h.tape, h.output, h.size, h.block⟩
theorem Ch.drewN {F : Nat → Prop} {a w : World} (h : Ch F a w) (n : Nat) : Ch F a (w.drewN n) := ⟨h.os, h.tape, h.output, h.size, h.block⟩
theorem Ch.alloc {F : Nat → Prop} {a w : World} (h : Ch F a w) (o : Obj) : Ch F a (w.alloc o) :=
  h.trans ⟨rfl, rfl, rfl, by simp, fun k hk _ => Below.heap_alloc _ _ _ hk⟩
theorem Ch.setNew {F : Nat → Prop} {a w : World} (h : Ch F a w) {p : Addr} (hp : a.heap.size ≤ p.block) (u : Value) : Ch F a (w.setCell p u) :=
  ⟨h.os, h.tape, h.output, by rw [World.size_setCell]; exact h.size, fun k hk hn => by rw [Below.heap_setCell _ _ _ _ (by omega)]; exact h.block k hk hn⟩
theorem Ch.setIn {F : Nat → Prop} {a w : World} (h : Ch F a w) {p : Addr} (hp : F p.block) (u : Value) : Ch F a (w.setCell p u) :=
  ⟨h.os, h.tape, h.output, by rw [World.size_setCell]; exact h.size, fun k hk hn => by rw [Below.heap_setCell _ _ _ _ (fun e => hn (by rw [e]; exact hp))]; exact h.block k hk hn⟩
theorem Ch.grown {F : Nat → Prop} {a w w' : World} (h : Ch F a w) {row : Option Nat} (hg : w.grownBy w' row) (hr : ∀ k, row = some k → a.heap.size ≤ k ∨ F k) : Ch F a w' :=
  ⟨hg.os.trans h.os, hg.tape.trans h.tape, hg.output.trans h.output, Nat.le_trans h.size hg.size,
   fun k hk hn => (hg.block k (Nat.lt_of_lt_of_le hk h.size) (fun e => by rcases hr k e.symm with q | q; · omega
                                                                          · exact hn q)).trans (h.block k hk hn)⟩
theorem Ch.below {w w' : World} (h : Ch No w w') : Below w.heap.size w w' := ⟨h.os, h.tape, h.output, h.size, fun k hk => h.block k hk (fun q => q)⟩
theorem Ch.ofBelow {F : Nat → Prop} {w w' : World} (h : Below w.heap.size w w') : Ch F w w' := ⟨h.os, h.tape, h.output, h.size, fun k hk _ => h.block k hk⟩
theorem Ch.cell {F : Nat → Prop} {w w' : World} (h : Ch F w w') {p : Addr} {v : Value} (hc : w.cell? p = some v) (hn : ¬ F p.block) : w'.cell? p = some v :=
  (World.cell?_of_block (w := w) (h.block p.block (World.block_lt_of_cell? w p hc) hn)).trans hc
theorem Ch.heap {F : Nat → Prop} {w w' : World} (h : Ch F w w') {k : Nat} {o : Obj} (hc : w.heap[k]? = some o) (hn : ¬ F k) : w'.heap[k]? = some o :=
  (h.block k (Array.getElem?_eq_some_iff.1 hc).1 hn).trans hc

/-! ### Blocks of cells -/

theorem heap_lt {w : World} {b : Nat} {o : Obj} (h : w.heap[b]? = some o) : b < w.heap.size := (Array.getElem?_eq_some_iff.1 h).1
theorem cellOf {w : World} {b : Nat} {cs : Array Value} {t : TypeId} {f : Nat × Nat} (h : w.heap[b]? = some (.cells cs t f)) (i : Nat) {v : Value} (hi : cs[i]? = some v) : w.cell? ⟨b, i, none⟩ = some v := by
  rw [cell_of_row w b i cs t f h]; exact hi
theorem freeOf {w : World} {b : Nat} {cs : Array Value} {t : TypeId} (h : w.heap[b]? = some (.cells cs t (0, 0))) (i : Nat) : w.frozen? ⟨b, i, none⟩ = false := frozen_of_row w b i cs t h
theorem heap_set {w : World} {b i : Nat} {cs : Array Value} {t : TypeId} (h : w.heap[b]? = some (.cells cs t (0, 0))) (v : Value) : (w.setCell ⟨b, i, none⟩ v).heap[b]? = some (.cells (cs.setIfInBounds i v) t (0, 0)) := heap_setCell_same w b i cs t v h
theorem heap_set_ne {w : World} {b c i : Nat} {o : Obj} (h : w.heap[b]? = some o) (hne : b ≠ c) (v : Value) : (w.setCell ⟨c, i, none⟩ v).heap[b]? = some o := by
  rw [Below.heap_setCell _ _ _ _ hne]; exact h
theorem heap_al {w : World} {b : Nat} {o : Obj} (h : w.heap[b]? = some o) (o' : Obj) : (w.alloc o').heap[b]? = some o := by
  rw [Below.heap_alloc _ _ _ (heap_lt h)]; exact h

/-- A block of whole numbers of one kind. -/
def ints (k : IntKind) (l : List Int) : Array Value := (l.map fun x => Value.int k x).toArray
theorem ints_get (k : IntKind) (l : List Int) (i : Nat) (h : i < l.length) : (ints k l)[i]? = some (.int k l[i]) := by simp [ints, h]
theorem ints_set (k : IntKind) (l : List Int) (i : Nat) (v : Int) : (ints k l).setIfInBounds i (.int k v) = ints k (l.set i v) := by
  simp [ints, List.map_set]
theorem ints_made (k : IntKind) (n : Nat) : madeCells #[.int k 0] n = ints k (List.replicate n 0) := by
  apply Array.ext'
  rw [toList_madeCells_one]
  simp [ints]

/-! ### Reading: so many cells as an α; nothing of it lies in the blocks of F -/

structure Rp (α : Type) where
  n : Nat
  R : (Nat → Prop) → World → List Value → α → Prop
  len : ∀ {F w cs x}, R F w cs x → cs.length = n
  one : ∀ {F w cs x}, R F w cs x → ∀ u ∈ cs, u.oneCell' = true
  tr : ∀ {F F' w w' cs x}, R F w cs x → (∀ k, k < w.heap.size → ¬ F k → w'.heap[k]? = w.heap[k]?) → (w.heap.size ≤ w'.heap.size) → (∀ k, F' k → F k ∨ w.heap.size ≤ k) → R F' w' cs x

/-- At place o of block b stands x. -/
def Rp.At {α : Type} (e : Rp α) (F : Nat → Prop) (w : World) (b o : Nat) (x : α) : Prop :=
  ∃ es, (∀ j u, es[j]? = some u → w.cell? ⟨b, o + j, none⟩ = some u) ∧ e.R F w es x

/-- A slice '.slice a l.length c' reads as l. -/
structure SlR {α : Type} (e : Rp α) (F : Nat → Prop) (w : World) (a : Option Addr) (c : Nat) (l : List α) : Prop where
  le : l.length ≤ c
  max : c ≤ maxLen
  nil : a = none → c = 0
  rd : l ≠ [] → ∃ b off, a = some ⟨b, off, none⟩ ∧ ¬ F b ∧ b < w.heap.size ∧ ∀ i, ∀ h : i < l.length, e.At F w b (off + i * e.n) l[i]

theorem Rp.At.tr {α : Type} {e : Rp α} {F F' : Nat → Prop} {w w' : World} {b o : Nat} {x : α} (h : e.At F w b o x) (hb : ¬ F b) (hlt : b < w.heap.size)
    (hk : ∀ k, k < w.heap.size → ¬ F k → w'.heap[k]? = w.heap[k]?) (hs : w.heap.size ≤ w'.heap.size) (hf : ∀ k, F' k → F k ∨ w.heap.size ≤ k) : e.At F' w' b o x := by
  obtain ⟨es, hc, hr⟩ := h
  refine ⟨es, fun j u hj => ?_, e.tr hr hk hs hf⟩
  rw [World.cell?_of_block (w := w) (hk b hlt hb)]
  exact hc j u hj

theorem SlR.tr {α : Type} {e : Rp α} {F F' : Nat → Prop} {w w' : World} {a : Option Addr} {c : Nat} {l : List α} (h : SlR e F w a c l)
    (hk : ∀ k, k < w.heap.size → ¬ F k → w'.heap[k]? = w.heap[k]?) (hs : w.heap.size ≤ w'.heap.size) (hf : ∀ k, F' k → F k ∨ w.heap.size ≤ k) : SlR e F' w' a c l := by
  refine ⟨h.le, h.max, h.nil, fun hl => ?_⟩
  obtain ⟨b, off, rfl, hb, hlt, hr⟩ := h.rd hl
  refine ⟨b, off, rfl, fun hfb => (hf b hfb).elim hb (fun q => by omega), by omega, fun i hi => (hr i hi).tr hb hlt hk hs hf⟩
/-- Behind a step that turns G alone. -/
theorem SlR.ch {α : Type} {e : Rp α} {F G : Nat → Prop} {w w' : World} {a : Option Addr} {c : Nat} {l : List α} (h : SlR e F w a c l) (hc : Ch G w w') (hg : ∀ k, G k → F k) : SlR e F w' a c l :=
  h.tr (fun k hk hn => hc.block k hk (fun g => hn (hg k g))) hc.size (fun _ h => .inl h)
theorem SlR.ch0 {α : Type} {e : Rp α} {F : Nat → Prop} {w w' : World} {a : Option Addr} {c : Nat} {l : List α} (h : SlR e F w a c l) (hc : Ch No w w') : SlR e F w' a c l := h.ch hc (fun _ q => q.elim)
theorem SlR.chF {α : Type} {e : Rp α} {F : Nat → Prop} {w w' : World} {a : Option Addr} {c : Nat} {l : List α} (h : SlR e F w a c l) (hc : Ch F w w') : SlR e F w' a c l := h.ch hc (fun _ q => q)
/-- More may be shut out, if it is new. -/
theorem SlR.more {α : Type} {e : Rp α} {F F' : Nat → Prop} {w : World} {a : Option Addr} {c : Nat} {l : List α} (h : SlR e F w a c l) (hf : ∀ k, F' k → F k ∨ w.heap.size ≤ k) : SlR e F' w a c l :=
  h.tr (fun _ _ _ => rfl) (Nat.le_refl _) hf
/-- The row v is new beside it. -/
theorem SlR.beside {α : Type} {e : Rp α} {F : Nat → Prop} {w : World} {a : Option Addr} {c : Nat} {l : List α} (h : SlR e F w a c l) (v : Value) (hv : ∀ k, v.ownBlock = some k → w.heap.size ≤ k) : SlR e (fun k => F k ∨ v.ownBlock = some k) w a c l :=
  h.more (fun k hk => hk.imp id (hv k))
theorem ownBlock_lit {g n c : Nat} : ∀ k, (Value.slice (some ⟨g, 0, none⟩) n c).ownBlock = some k → g ≤ k := by
  intro k hk; simp [Value.ownBlock] at hk; omega
theorem ownBlock_nil {B : Nat} : ∀ k, (Value.slice none 0 0).ownBlock = some k → B ≤ k := by
  intro k hk; simp [Value.ownBlock] at hk
theorem SlR.nilR {α : Type} (e : Rp α) (F : Nat → Prop) (w : World) : SlR e F w none 0 [] := ⟨Nat.le_refl _, Nat.zero_le _, fun _ => rfl, fun h => absurd rfl h⟩

/-- Element i. -/
theorem SlR.at_ {α : Type} {e : Rp α} {F : Nat → Prop} {w : World} {a : Option Addr} {c : Nat} {l : List α} (h : SlR e F w a c l) (i : Nat) (hi : i < l.length) :
    ∃ b off, a = some ⟨b, off, none⟩ ∧ ¬ F b ∧ b < w.heap.size ∧ e.At F w b (off + i * e.n) l[i] := by
  obtain ⟨b, off, ha, hb, hlt, hr⟩ := h.rd (by intro h; simp [h] at hi)
  exact ⟨b, off, ha, hb, hlt, hr i hi⟩

/-- A slice as one cell. -/
def slRp {α : Type} (e : Rp α) : Rp (List α) where
  n := 1
  R F w cs l := ∃ a c, cs = [.slice a l.length c] ∧ SlR e F w a c l
  len := by rintro F w cs x ⟨a, c, rfl, _⟩; rfl
  one := by rintro F w cs x ⟨a, c, rfl, _⟩ u hu; simp at hu; subst hu; rfl
  tr := by rintro F F' w w' cs x ⟨a, c, rfl, h⟩ hk hs hf; exact ⟨a, c, rfl, h.tr hk hs hf⟩

/-- Cells that tell their thing by themselves. -/
def flat {α : Type} (n : Nat) (f : α → List Value) (hn : ∀ x, (f x).length = n) (h1 : ∀ x, ∀ u ∈ f x, u.oneCell' = true) (P : α → Prop) : Rp α where
  n := n
  R _ _ cs x := cs = f x ∧ P x
  len := by rintro F w cs x ⟨rfl, _⟩; exact hn x
  one := by rintro F w cs x ⟨rfl, _⟩; exact h1 x
  tr := by rintro F F' w w' cs x h _ _ _; exact h

/-- Within its kind. -/
def InK : IntKind → Int → Prop
  | .i8, x => -128 ≤ x ∧ x ≤ 127
  | .i16, x => -32768 ≤ x ∧ x ≤ 32767
  | .i32, x => -2147483648 ≤ x ∧ x ≤ 2147483647
  | .i64, x => -9223372036854775808 ≤ x ∧ x ≤ 9223372036854775807
  | .u8, x => 0 ≤ x ∧ x ≤ 255
  | .u16, x => 0 ≤ x ∧ x ≤ 65535
  | .u32, x => 0 ≤ x ∧ x ≤ 4294967295
  | .u64, x => 0 ≤ x ∧ x ≤ 18446744073709551615
theorem InK.ofWf {k : IntKind} {x : Int} (h : (Lit.int k x).wf = true) : InK k x := by
  cases k <;> simp [Lit.wf, IntKind.wrap, IntKind.bits, IntKind.signed, IntKind.min, IntKind.max] at h <;> simp [InK] <;> omega
theorem InK.wrap (k : IntKind) (x : Int) : InK k (k.wrap x) := by
  cases k <;> simp [IntKind.wrap, IntKind.bits, IntKind.signed, InK] <;> (try split) <;> omega
theorem meas_lt {n j : Nat} (h : j < n) : n - (intOf (.int .i64 ((j : Int) + 1))).toNat < n - (intOf (.int .i64 (j : Int))).toNat := by
  simp [intOf]; omega
theorem num_succ (j : Nat) : Value.int .i64 ((j : Int) + 1) = Value.int .i64 ((j + 1 : Nat) : Int) := by simp
abbrev U64 (x : Int) : Prop := InK .u64 x
abbrev I64 (x : Int) : Prop := InK .i64 x
theorem U64.bd {x : Int} (h : U64 x) : 0 ≤ x ∧ x ≤ 18446744073709551615 := h
theorem I64.bd {x : Int} (h : I64 x) : -9223372036854775808 ≤ x ∧ x ≤ 9223372036854775807 := h

/-- A whole number of kind k, within its kind. -/
def intRp (k : IntKind) : Rp Int := flat 1 (fun x => [.int k x]) (fun _ => rfl) (by intro x u hu; simp at hu; subst hu; rfl) (InK k)
def boolRp : Rp Bool := flat 1 (fun x => [.bool x]) (fun _ => rfl) (by intro x u hu; simp at hu; subst hu; rfl) (fun _ => True)

theorem take_eq_succ {α : Type} {l l' : List α} {k : Nat} (h : l.take k = l'.take k) (h1 : k < l.length) (h2 : k < l'.length) (he : l[k] = l'[k]) : l.take (k + 1) = l'.take (k + 1) := by
  rw [List.take_succ_eq_append_getElem h1, List.take_succ_eq_append_getElem h2, h, he]
theorem take_ne_of {α : Type} {l l' : List α} {k : Nat} (h1 : k < l.length) (h2 : k < l'.length) (he : l[k] ≠ l'[k]) : l ≠ l' := by
  rintro rfl; exact he rfl

theorem SlR.int_at {k : IntKind} {F : Nat → Prop} {w : World} {a : Option Addr} {c : Nat} {l : List Int} (h : SlR (intRp k) F w a c l) (i : Nat) (hi : i < l.length) :
    ∃ b off, a = some ⟨b, off, none⟩ ∧ ¬ F b ∧ b < w.heap.size ∧ w.cell? ⟨b, off + i, none⟩ = some (.int k l[i]) ∧ InK k l[i] := by
  obtain ⟨b, off, ha, hb, hlt, es, hc, he, hw⟩ := h.at_ i hi
  subst he
  have := hc 0 _ rfl
  simp only [intRp, flat, Nat.mul_one, Nat.add_zero] at this
  exact ⟨b, off, ha, hb, hlt, this, hw⟩

/-- Two numbers. -/
def pairRp (k : IntKind) : Rp (Int × Int) := flat 2 (fun x => [.int k x.1, .int k x.2]) (fun _ => rfl) (by intro x u hu; simp at hu; rcases hu with rfl | rfl <;> rfl) (fun x => InK k x.1 ∧ InK k x.2)

theorem SlR.pair_at {k : IntKind} {F : Nat → Prop} {w : World} {a : Option Addr} {c : Nat} {l : List (Int × Int)} (h : SlR (pairRp k) F w a c l) (i : Nat) (hi : i < l.length) :
    ∃ b off, a = some ⟨b, off, none⟩ ∧ ¬ F b ∧ b < w.heap.size ∧ w.cell? ⟨b, off + i * 2, none⟩ = some (.int k l[i].1) ∧ w.cell? ⟨b, off + i * 2 + 1, none⟩ = some (.int k l[i].2) ∧ InK k l[i].1 ∧ InK k l[i].2 := by
  obtain ⟨b, off, ha, hb, hlt, es, hc, he, hw⟩ := h.at_ i hi
  subst he
  exact ⟨b, off, ha, hb, hlt, hc 0 _ rfl, hc 1 _ rfl, hw⟩

/-! ### A row that the call owns -/

/-- v is a slice that the call (which began at base) owns; its elements are l. -/
def OwnR {α : Type} (e : Rp α) (base : Nat) (T : TypeId) (F : Nat → Prop) (w : World) (v : Value) (l : List α) : Prop :=
  ∃ xs, w.ownsRow base T e.n v l.length xs ∧ ∀ i, ∀ h : i < l.length, e.R (fun k => F k ∨ v.ownBlock = some k) w ((xs.drop (i * e.n)).take e.n) l[i]

theorem OwnR.nilR {α : Type} (e : Rp α) (base : Nat) (T : TypeId) (F : Nat → Prop) (w : World) : OwnR e base T F w (.slice none 0 0) [] :=
  ⟨[], World.ownsRow_nil _ _ _ _, fun i h => absurd h (by simp)⟩

/-- What is owned can be read. -/
theorem OwnR.sl {α : Type} {e : Rp α} {base : Nat} {T : TypeId} {F : Nat → Prop} {w : World} {v : Value} {l : List α} (h : OwnR e base T F w v l) (hF : ∀ k, F k → k < base) :
    ∃ a c, v = .slice a l.length c ∧ SlR e F w a c l := by
  obtain ⟨xs, hown, hr⟩ := h
  rcases hown.2 with ⟨rfl, hn⟩ | ⟨g, cap, cur, rfl, hg, hh, hle, hmax, hsz, htake⟩
  · obtain rfl : l = [] := List.eq_nil_of_length_eq_zero hn
    exact ⟨none, 0, by simp, SlR.nilR _ _ _⟩
  · refine ⟨_, cap, rfl, hle, hmax, fun h => by simp at h, fun hl => ⟨g, 0, rfl, fun hf => by have := hF g hf; omega, heap_lt hh, fun i hi => ⟨_, ?_, e.tr (hr i hi) (fun _ _ _ => rfl) (Nat.le_refl _) (fun k hk => .inl (.inl hk))⟩⟩⟩
    intro j u hj
    have hj' : j < e.n := by
      have h1 := e.len (hr i hi)
      have := (List.getElem?_eq_some_iff.1 hj).1
      omega
    rw [cell_of_row w g _ cur T (0, 0) hh]
    rw [List.getElem?_take, if_pos hj', List.getElem?_drop, ← htake, List.getElem?_take] at hj
    split at hj
    · simpa using hj
    · simp at hj

theorem OwnR.grownBase {α : Type} {e : Rp α} {base : Nat} {T : TypeId} {F : Nat → Prop} {w w' : World} {v : Value} {l : List α} (h : OwnR e base T F w v l) {G : Nat → Prop} (hc : Ch G w w')
    (hG : ∀ k, G k → F k) (hF : ∀ k, F k → k < base) : OwnR e base T F w' v l := by
  obtain ⟨xs, hown, hr⟩ := h
  refine ⟨xs, ⟨hown.1, ?_⟩, fun i hi => e.tr (hr i hi) (fun k hk hn => hc.block k hk (fun g => hn (.inl (hG k g)))) hc.size (fun k hk => .inl hk)⟩
  rcases hown.2 with hn | ⟨g, cap, cur, hv, hg, hh, rest⟩
  · exact .inl hn
  · exact .inr ⟨g, cap, cur, hv, hg, hc.heap hh (fun q => by have := hF g (hG g q); omega), rest⟩

/-- One element more. -/
theorem OwnR.push {α : Type} {e : Rp α} {base : Nat} {T : TypeId} {F : Nat → Prop} {w w' : World} {v v' : Value} {l : List α} {x : α} {cs xs : List Value}
    (hr : ∀ i, ∀ h : i < l.length, e.R (fun k => F k ∨ v.ownBlock = some k) w ((xs.drop (i * e.n)).take e.n) l[i]) (hlen : xs.length = l.length * e.n)
    (hx : e.R (fun k => F k ∨ v.ownBlock = some k) w cs x) (hg : w.grownBy w' v.ownBlock)
    (hown : w'.ownsRow base T e.n v' (l.length + 1) (xs ++ cs)) (hnew : ∀ k, v'.ownBlock = some k → v.ownBlock = some k ∨ w.heap.size ≤ k) : OwnR e base T F w' v' (l ++ [x]) := by
  have tr : ∀ {cs : List Value} {y : α}, e.R (fun k => F k ∨ v.ownBlock = some k) w cs y → e.R (fun k => F k ∨ v'.ownBlock = some k) w' cs y := fun h =>
    e.tr h (fun k hk hn => hg.block k hk (fun q => hn (.inr q.symm))) hg.size (fun k hk => by
      rcases hk with hk | hk
      · exact .inl (.inl hk)
      · rcases hnew k hk with q | q
        · exact .inl (.inr q)
        · exact .inr q)
  refine ⟨xs ++ cs, by simpa using hown, fun i hi => ?_⟩
  by_cases hlt : i < l.length
  · rw [List.getElem_append_left hlt]
    have hm : (i + 1) * e.n ≤ l.length * e.n := Nat.mul_le_mul_right _ hlt
    rw [Nat.add_mul, Nat.one_mul] at hm
    have : ((xs ++ cs).drop (i * e.n)).take e.n = (xs.drop (i * e.n)).take e.n := by
      rw [List.drop_append_of_le_length (by omega), List.take_append_of_le_length (by simp; omega)]
    rw [this]
    exact tr (hr i hlt)
  · have hi' : i = l.length := by simp at hi; omega
    subst hi'
    simp only [List.getElem_concat_length]
    have : ((xs ++ cs).drop (l.length * e.n)).take e.n = cs := by
      rw [← hlen, List.drop_left]
      exact List.take_of_length_le (by rw [e.len hx]; exact Nat.le_refl _)
    rw [this]
    exact tr hx

theorem take_one_drop {α : Type} (l : List α) (i : Nat) (h : i < l.length) : (l.drop i).take 1 = [l[i]] := by
  rw [List.drop_eq_getElem_cons h]; rfl

theorem OwnR.ofInts {k : IntKind} {base n : Nat} {T : TypeId} {F : Nat → Prop} {w : World} {v : Value} {l : List Int} (h : w.ownsRow base T 1 v n (l.map (Value.int k))) (hn : n = l.length) (hk : ∀ x ∈ l, InK k x) : OwnR (intRp k) base T F w v l := by
  subst hn
  refine ⟨_, h, fun i hi => ⟨?_, hk _ (List.getElem_mem hi)⟩⟩
  simp only [intRp, flat, Nat.mul_one]
  rw [take_one_drop _ _ (by simpa using hi)]
  simp

theorem OwnR.ints {k : IntKind} {base : Nat} {T : TypeId} {F : Nat → Prop} {w : World} {v : Value} {l : List Int} (h : OwnR (intRp k) base T F w v l) : w.ownsRow base T 1 v l.length (l.map (Value.int k)) ∧ ∀ x ∈ l, InK k x := by
  obtain ⟨xs, h1, h2⟩ := h
  have hl : xs.length = l.length := by have := h1.1; simpa [intRp, flat] using this
  have : xs = l.map (Value.int k) := by
    apply List.ext_getElem
    · simp [hl]
    · intro i hi hi'
      have := (h2 i (by omega)).1
      simp only [intRp, flat, Nat.mul_one] at this
      rw [take_one_drop _ _ hi] at this
      simpa using this
  subst this
  exact ⟨h1, fun x hx => by obtain ⟨i, hi, rfl⟩ := List.mem_iff_getElem.1 hx; exact (h2 i hi).2⟩

/-! ### Laws of the walk -/

/-- 'make([]k, n)': so many zeros in a new block. -/
theorem wpL_make {P : Program} {w : World} {ops : Array Oper} {rest : List Oper} {o : Oper} {a : Act} {Q : Exit → Act → World → Prop}
    (hg : o.guard = none) (l c : Operand) (t : TypeId) (hop : o.op = Op.makeSlice t l c) (e : TypeId) (k : IntKind) (bytes : Nat) (h1 : P.underlying t = some (.slice e))
    (hrow : (P.info? e).map (fun i => (i.zero, i.size, i.bytes)) = some (some (.int k 0), 1, bytes)) (kl kc : IntKind) (L C : Int) (n : Nat) (hl : a.eval l = .int kl L) (hc : a.eval c = .int kc C) (hL : L = (n : Int)) (hC : C = (n : Int))
    (b2 : bytes * n ≤ 281474976710656) (b3 : n ≤ 9223372036854775807)
    (hK : wpList P ops Q rest (a.put o.dst (.slice (some ⟨w.heap.size, 0, none⟩) n n)) (w.alloc (.cells (ints k (List.replicate n 0)) e))) : wpList P ops Q (o :: rest) a w := by
  obtain ⟨i, hi, hz0, hz1, hz2⟩ := info_parts hrow
  refine wpList_plain hg fun K hK' => ?_
  subst hL; subst hC; subst hz2
  have hb' : (i.bytes : Int) * (n : Int) ≤ 281474976710656 := by
    have h : ((i.bytes * n : Nat) : Int) ≤ 281474976710656 := by omega
    rwa [Int.natCast_mul] at h
  have hr := run_make (P := P) w t e i (.int k 0) h1 hi hz0 kl kc n n (by omega) (Int.le_refl _) hb' (by omega)
  rw [hz1, Int.toNat_natCast, Nat.mul_one] at hr
  simp only [Value.cells, ints_made] at hr
  unfold Oper.wp
  simp only [execOp, hop, hl, hc, Sem.run_bind, hr, Result.andThen_ok, Sem.run_pure, Oper.upon_value]
  exact hK' _ _ hK

theorem ownsRow_base {w : World} {base base' : Nat} {e : TypeId} {size : Nat} {v : Value} {n : Nat} {xs : List Value} (h : w.ownsRow base e size v n xs) (hb : base' ≤ base) : w.ownsRow base' e size v n xs := by
  refine ⟨h.1, ?_⟩
  rcases h.2 with h2 | ⟨g, cap, cur, a, b, c⟩
  · exact .inl h2
  · exact .inr ⟨g, cap, cur, a, by omega, c⟩

/-- 'run_append_own', and: what is owned then is the old row, or new. -/
theorem run_append_new {P : Program} (w : World) (base : Nat) (t ty e : TypeId) (i : TypeInfo) (z : Value) (size bytes : Nat) (ht : P.underlying t = some (.slice e)) (hi : P.info? e = some i) (hz : i.zero = some z)
    (hsize : i.size = size) (hby : i.bytes = bytes) (hzs : z.cells.size = size) (hsz : 0 < size)
    (v : Value) (n : Nat) (xs : List Value) (hown : w.ownsRow base e size v n xs)
    (a : Addr) (m c : Nat) (news : List Value) (hl : news.length = m * size) (hnews : ∀ j u, news[j]? = some u → w.cell? (a.add j) = some u) (h1 : ∀ u ∈ news, u.oneCell' = true)
    (h63 : n + m ≤ maxLen) (hbytes : (n + m) * bytes ≤ 140737488355328) (hbase : base ≤ w.heap.size) :
    ∃ v' w', (Builtin.append_ #[t, t] ty #[v, .slice (some a) m c]).run P w = .ok v' w' ∧ w'.ownsRow base e size v' (n + m) (xs ++ news) ∧ w.grownBy w' v.ownBlock ∧
      (∀ k, v'.ownBlock = some k → v.ownBlock = some k ∨ w.heap.size ≤ k) := by
  have hown0 := hown
  rcases hown.2 with ⟨rfl, rfl⟩ | ⟨g, cap, cur, rfl, hbg, hg, hnc, hcm, hcs, htake⟩
  · obtain rfl : xs = [] := List.eq_nil_of_length_eq_zero (by simpa using hown.1)
    obtain ⟨v', w', r1, r2, r3, _⟩ := run_append_own (P := P) w w.heap.size t ty e i z size bytes ht hi hz hsize hby hzs hsz (.slice none 0 0) 0 [] (World.ownsRow_nil w _ e size) a m c news hl hnews h1 h63 hbytes (Nat.le_refl _)
    exact ⟨v', w', r1, ownsRow_base r2 hbase, r3, fun k hk => .inr (r2.lt k hk).1⟩
  · by_cases hroom : n + m ≤ cap
    · obtain ⟨w', r1, r2, r3⟩ := run_append_fits (P := P) w base t ty e i size ht hi hsize g n cap xs hown0 a m c news hl hnews h1 hroom
      exact ⟨_, w', r1, r2, r3, fun k hk => .inl hk⟩
    · obtain ⟨v', w', r1, r2, r3⟩ := run_append_arg_grows (P := P) w t ty e i z size bytes ht hi hz hsize hby hzs hsz ⟨g, 0, none⟩ n cap xs hown.1 (hown0.cells (g := g) rfl) a m c news hl hnews (by omega) h63 hbytes
      exact ⟨v', w', r1, ownsRow_base r2 hbase, ⟨r3.os, r3.tape, r3.output, r3.size, fun k hk _ => r3.block k hk (by simp)⟩, fun k hk => .inr (r2.lt k hk).1⟩

/-- 'append(s, x...)', s the call's own, x any slice that reads. -/
theorem wpL_append {P : Program} {w : World} {ops : Array Oper} {rest : List Oper} {o : Oper} {a : Act} {Q : Exit → Act → World → Prop}
    (hg : o.guard = none) (s x : Operand) (t : TypeId) (hop : o.op = .call { callee := .builtin .append, args := #[s, x], argTypes := #[t, t] })
    (base : Nat) (e : TypeId) (z : Value) (size bytes : Nat) (h1 : P.underlying t = some (.slice e))
    (hrow : (P.info? e).map (fun i => (i.zero, i.size, i.bytes)) = some (some z, size, bytes)) (hzs : z.cells.size = size) (hsz : 0 < size)
    (v : Value) (n : Nat) (xs : List Value) (hs : a.eval s = v) (hown : w.ownsRow base e size v n xs)
    (ad : Option Addr) (m c : Nat) (news : List Value) (hx : a.eval x = .slice ad m c) (hl : news.length = m * size) (hnil : ad = none → c = 0 ∧ m = 0) (hnews : 0 < m → ∃ p, ad = some p ∧ ∀ j u, news[j]? = some u → w.cell? (p.add j) = some u) (h1' : ∀ u ∈ news, u.oneCell' = true)
    (h63 : n + m ≤ maxLen) (hbytes : (n + m) * bytes ≤ 140737488355328) (hbase : base ≤ w.heap.size)
    (h : ∀ v' w', w'.ownsRow base e size v' (n + m) (xs ++ news) → w.grownBy w' v.ownBlock → (∀ k, v'.ownBlock = some k → v.ownBlock = some k ∨ w.heap.size ≤ k) → wpList P ops Q rest (a.put o.dst v') w') : wpList P ops Q (o :: rest) a w := by
  obtain ⟨i, hi, hz0, hz1, hz2⟩ := info_parts hrow
  cases ad with
  | none =>
    obtain ⟨rfl, rfl⟩ := hnil rfl
    obtain rfl : news = [] := List.eq_nil_of_length_eq_zero (by simpa using hl)
    refine wpList_append_own_none hg s x t hop base e i size h1 hi v n xs hs hown hx (h v w (by simpa using hown) (World.grownBy.refl _ _) (fun k hk => .inl hk))
  | some p =>
    have hc : ∀ j u, news[j]? = some u → w.cell? (p.add j) = some u := by
      intro j u hj
      have hm : 0 < m := by
        have := (List.getElem?_eq_some_iff.1 hj).1
        rw [hl] at this
        exact Nat.pos_of_ne_zero (by rintro rfl; simp at this)
      obtain ⟨p', hp, hq⟩ := hnews hm
      cases hp
      exact hq j u hj
    refine wpList_plain hg fun K hK' => ?_
    obtain ⟨v', w', hr, h2, h3, hold⟩ := run_append_new (P := P) w base t o.type e i z size bytes h1 hi hz0 hz1 hz2 hzs hsz v n xs hown p m c news hl hc h1' h63 hbytes hbase
    unfold Oper.wp execOp
    simp only [hop, resolve, invoke, builtin, Sem.run_bind, Sem.run_pure, Result.andThen_ok, List.map_toArray, List.map_cons, List.map_nil, hs, hx, hr]
    exact hK' _ _ (h v' w' h2 h3 hold)

theorem grown_ch {base : Nat} {w w' : World} {v : Value} {e : TypeId} {size n : Nat} {xs : List Value} (hown : w.ownsRow base e size v n xs) (hg : w.grownBy w' v.ownBlock) : ∀ (F : Nat → Prop) (W : World), W.heap.size ≤ base → Ch F W w → Ch F W w' :=
  fun F W hW h => h.grown hg (fun k hk => .inl (by have := (hown.lt k hk).1; omega))

/-- 'append(s, y)', s the call's own; y has just been laid into a block of its own. -/
theorem wpL_push {α : Type} {P : Program} {w : World} {ops : Array Oper} {rest : List Oper} {o : Oper} {a : Act} {Q : Exit → Act → World → Prop}
    (hg : o.guard = none) (s x : Operand) (t : TypeId) (hop : o.op = .call { callee := .builtin .append, args := #[s, x], argTypes := #[t, t] })
    (base : Nat) (e : TypeId) (z : Value) (size bytes : Nat) (h1 : P.underlying t = some (.slice e))
    (hrow : (P.info? e).map (fun i => (i.zero, i.size, i.bytes)) = some (some z, size, bytes)) (hzs : z.cells.size = size) (hsz : 0 < size)
    (er : Rp α) (hen : er.n = size) (F : Nat → Prop) (v : Value) (l : List α) (hs : a.eval s = v) (hown : OwnR er base e F w v l)
    (cs : List Value) (T : TypeId) (y : α) (c : Nat) (hx : a.eval x = .slice (some ⟨w.heap.size, 0, none⟩) 1 c) (hy : er.R (fun k => F k ∨ v.ownBlock = some k) w cs y) (hF : ∀ k, F k → k < base)
    (h63 : l.length + 1 ≤ 9223372036854775807) (hbytes : (l.length + 1) * bytes ≤ 140737488355328) (hbase : base ≤ w.heap.size)
    (h : ∀ v' w', OwnR er base e F w' v' (l ++ [y]) → (∀ (F0 : Nat → Prop) (W : World), W.heap.size ≤ base → Ch F0 W w → Ch F0 W w') → Ch (fun k => v.ownBlock = some k) w w' → wpList P ops Q rest (a.put o.dst v') w') :
    wpList P ops Q (o :: rest) a (w.alloc (.cells cs.toArray T)) := by
  subst hen
  obtain ⟨xs, hrw, hr⟩ := hown
  have hlen := er.len hy
  refine wpL_append hg s x t hop base e z er.n bytes h1 hrow hzs hsz v l.length xs hs (hrw.alloc _) (some ⟨w.heap.size, 0, none⟩) 1 c cs hx (by omega) (by simp)
    (fun _ => ⟨_, rfl, fun j u hj => by rw [Addr.add_lit, Nat.zero_add, World.cell?_alloc_new]; simpa using hj⟩) (er.one hy) (by unfold maxLen; omega) hbytes (by simp; omega) fun v' w' ho hg' hk => ?_
  have hc0 : Ch No w (w.alloc (.cells cs.toArray T)) := (Ch.refl _ _).alloc _
  refine h v' w' ?_ (fun F0 W hW hc => grown_ch (hrw.alloc _) hg' F0 W hW (hc.alloc _)) (((Ch.refl _ _).alloc _).grown hg' (fun k hk => .inr hk))
  refine OwnR.push (w := w.alloc (.cells cs.toArray T)) (fun i hi => er.tr (hr i hi) (fun k hk hn => hc0.block k hk (fun q => q)) hc0.size (fun k hk => .inl hk)) hrw.1 (er.tr hy (fun k hk hn => hc0.block k hk (fun q => q)) hc0.size (fun k hk => .inl hk)) hg' ho hk

/-- All cells of a slice, in one list. -/
theorem SlR.cells {α : Type} {e : Rp α} {F : Nat → Prop} {w : World} {a : Option Addr} {c : Nat} {l : List α} (h : SlR e F w a c l) :
    ∃ news : List Value, news.length = l.length * e.n ∧ (0 < l.length → ∃ b off, a = some ⟨b, off, none⟩ ∧ ¬ F b ∧ b < w.heap.size ∧ ∀ j u, news[j]? = some u → w.cell? ⟨b, off + j, none⟩ = some u) ∧ (∀ u ∈ news, u.oneCell' = true) ∧
      ∀ i, ∀ h : i < l.length, e.R F w ((news.drop (i * e.n)).take e.n) l[i] := by
  by_cases hl : l = []
  · subst hl; exact ⟨[], by simp, by simp, by simp, fun i h => absurd h (by simp)⟩
  obtain ⟨b, off, ha, hb, hlt, hr⟩ := h.rd hl
  clear h
  have key : ∀ n, n ≤ l.length → ∃ news : List Value, news.length = n * e.n ∧ (∀ j u, news[j]? = some u → w.cell? ⟨b, off + j, none⟩ = some u) ∧ (∀ u ∈ news, u.oneCell' = true) ∧
      ∀ i, ∀ h : i < l.length, i < n → e.R F w ((news.drop (i * e.n)).take e.n) l[i] := by
    intro n
    induction n with
    | zero => intro _; exact ⟨[], by simp, by simp, by simp, fun i _ h => absurd h (by simp)⟩
    | succ n ih =>
      intro hn
      obtain ⟨news, h1, h2, h3, h4⟩ := ih (by omega)
      obtain ⟨es, hc, hR⟩ := hr n (by omega)
      have hle := e.len hR
      refine ⟨news ++ es, by rw [List.length_append, h1, hle, Nat.add_mul, Nat.one_mul], ?_, ?_, ?_⟩
      · intro j u hj
        by_cases hjn : j < news.length
        · rw [List.getElem?_append_left hjn] at hj; exact h2 j u hj
        · rw [List.getElem?_append_right (by omega)] at hj
          have := hc _ u hj
          rw [h1] at this
          rw [show off + j = off + n * e.n + (j - n * e.n) by omega]; exact this
      · intro u hu
        rcases List.mem_append.1 hu with hu | hu
        · exact h3 u hu
        · exact e.one hR u hu
      · intro i hi hin
        by_cases h' : i < n
        · have hm : (i + 1) * e.n ≤ n * e.n := Nat.mul_le_mul_right _ h'
          rw [Nat.add_mul, Nat.one_mul] at hm
          have : ((news ++ es).drop (i * e.n)).take e.n = (news.drop (i * e.n)).take e.n := by
            rw [List.drop_append_of_le_length (by omega), List.take_append_of_le_length (by simp; omega)]
          rw [this]; exact h4 i hi h'
        · obtain rfl : i = n := by omega
          have : ((news ++ es).drop (i * e.n)).take e.n = es := by
            rw [← h1, List.drop_left]; exact List.take_of_length_le (by omega)
          rw [this]; exact hR
  obtain ⟨news, h1, h2, h3, h4⟩ := key l.length (Nat.le_refl _)
  exact ⟨news, h1, fun _ => ⟨b, off, ha, hb, hlt, h2⟩, h3, fun i hi => h4 i hi hi⟩

/-- 'append(s, x...)', s the call's own, x a slice that reads as l2. -/
theorem wpL_appendR {α : Type} {P : Program} {w : World} {ops : Array Oper} {rest : List Oper} {o : Oper} {a : Act} {Q : Exit → Act → World → Prop}
    (hg : o.guard = none) (s x : Operand) (t : TypeId) (hop : o.op = .call { callee := .builtin .append, args := #[s, x], argTypes := #[t, t] })
    (base : Nat) (e : TypeId) (z : Value) (size bytes : Nat) (h1 : P.underlying t = some (.slice e))
    (hrow : (P.info? e).map (fun i => (i.zero, i.size, i.bytes)) = some (some z, size, bytes)) (hzs : z.cells.size = size) (hsz : 0 < size)
    (er : Rp α) (hen : er.n = size) (F : Nat → Prop) (v : Value) (l : List α) (hs : a.eval s = v) (hown : OwnR er base e F w v l)
    (ad : Option Addr) (c : Nat) (l2 : List α) (hx : a.eval x = .slice ad l2.length c) (hl2 : SlR er (fun k => F k ∨ v.ownBlock = some k) w ad c l2)
    (h63 : l.length + l2.length ≤ 9223372036854775807) (hbytes : (l.length + l2.length) * bytes ≤ 140737488355328) (hbase : base ≤ w.heap.size)
    (h : ∀ v' w', OwnR er base e F w' v' (l ++ l2) → (∀ (F0 : Nat → Prop) (W : World), W.heap.size ≤ base → Ch F0 W w → Ch F0 W w') → Ch (fun k => v.ownBlock = some k) w w' → wpList P ops Q rest (a.put o.dst v') w') :
    wpList P ops Q (o :: rest) a w := by
  subst hen
  obtain ⟨xs, hrw, hr⟩ := hown
  obtain ⟨news, n1, n2, n3, n4⟩ := hl2.cells
  refine wpL_append hg s x t hop base e z er.n bytes h1 hrow hzs hsz v l.length xs hs hrw ad l2.length c news hx n1 (fun hn => ⟨hl2.nil hn, by have := hl2.nil hn; have := hl2.le; omega⟩)
    (fun hm => ?_) n3 (by unfold maxLen; omega) hbytes hbase fun v' w' ho hg' hk => ?_
  · obtain ⟨b, off, ha, _, _, hc⟩ := n2 hm
    exact ⟨_, ha, fun j u hj => by rw [Addr.add_lit]; exact hc j u hj⟩
  · refine h v' w' ⟨xs ++ news, by simpa using ho, fun i hi => ?_⟩ (grown_ch hrw hg') ((Ch.refl _ _).grown hg' (fun k hk => .inr hk))
    have tr : ∀ {cs : List Value} {y : α}, er.R (fun k => F k ∨ v.ownBlock = some k) w cs y → er.R (fun k => F k ∨ v'.ownBlock = some k) w' cs y := fun h =>
      er.tr h (fun k hk hn => hg'.block k hk (fun q => hn (.inr q.symm))) hg'.size (fun k hk' => by
        rcases hk' with hk' | hk'
        · exact .inl (.inl hk')
        · rcases hk k hk' with q | q
          · exact .inl (.inr q)
          · exact .inr q)
    have hlen := hrw.1
    by_cases hlt : i < l.length
    · rw [List.getElem_append_left hlt]
      have hm : (i + 1) * er.n ≤ l.length * er.n := Nat.mul_le_mul_right _ hlt
      rw [Nat.add_mul, Nat.one_mul] at hm
      have : ((xs ++ news).drop (i * er.n)).take er.n = (xs.drop (i * er.n)).take er.n := by
        rw [List.drop_append_of_le_length (by omega), List.take_append_of_le_length (by simp; omega)]
      rw [this]
      exact tr (hr i hlt)
    · have hi2 : i - l.length < l2.length := by simp at hi; omega
      rw [List.getElem_append_right (by omega)]
      have : ((xs ++ news).drop (i * er.n)).take er.n = (news.drop ((i - l.length) * er.n)).take er.n := by
        have h0 : l.length * er.n ≤ i * er.n := Nat.mul_le_mul_right _ (by omega)
        rw [List.drop_append, List.drop_of_length_le (by omega), List.nil_append, hlen, Nat.sub_mul]
      rw [this]
      exact tr (n4 _ hi2)

/-- '[]T{}': an empty slice of the call's own. -/
theorem OwnR.lit0 {α : Type} {e : Rp α} {base : Nat} {T : TypeId} {F : Nat → Prop} {w : World} (hb : base ≤ w.heap.size) : OwnR e base T F (w.alloc (.cells #[] T)) (.slice (some ⟨w.heap.size, 0, none⟩) 0 0) [] :=
  ⟨[], World.ownsRow_lit w #[] 0 hb (Nat.zero_le _) (by simp), fun i h => absurd h (by simp)⟩

theorem OwnR.ch {α : Type} {e : Rp α} {base : Nat} {T : TypeId} {F G : Nat → Prop} {w w' : World} {v : Value} {l : List α} (h : OwnR e base T F w v l) (hc : Ch G w w')
    (hG : ∀ k, G k → F k) (hF : ∀ k, F k → k < base) : OwnR e base T F w' v l := h.grownBase hc hG hF
theorem OwnR.ch0 {α : Type} {e : Rp α} {base : Nat} {T : TypeId} {F : Nat → Prop} {w w' : World} {v : Value} {l : List α} (h : OwnR e base T F w v l) (hc : Ch No w w') : OwnR e base T F w' v l := by
  obtain ⟨xs, hown, hr⟩ := h
  refine ⟨xs, ⟨hown.1, ?_⟩, fun i hi => e.tr (hr i hi) (fun k hk hn => hc.block k hk (fun q => q)) hc.size (fun k hk => .inl hk)⟩
  rcases hown.2 with hn | ⟨g, cap, cur, hv, hg, hh, rest⟩
  · exact .inl hn
  · exact .inr ⟨g, cap, cur, hv, hg, hc.heap hh (fun q => q), rest⟩
theorem OwnR.blk {α : Type} {e : Rp α} {base : Nat} {T : TypeId} {F : Nat → Prop} {w : World} {v : Value} {l : List α} (h : OwnR e base T F w v l) : ∀ k, v.ownBlock = some k → base ≤ k ∧ k < w.heap.size := by
  obtain ⟨xs, hown, _⟩ := h
  exact hown.lt
theorem OwnR.base {α : Type} {e : Rp α} {base base' : Nat} {T : TypeId} {F : Nat → Prop} {w : World} {v : Value} {l : List α} (h : OwnR e base T F w v l) (hb : base' ≤ base) : OwnR e base' T F w v l := by
  obtain ⟨xs, hown, hr⟩ := h
  exact ⟨xs, ownsRow_base hown hb, hr⟩

/-- The shape of an owned row of numbers. -/
theorem OwnR.int_form {k : IntKind} {base : Nat} {T : TypeId} {F : Nat → Prop} {w : World} {v : Value} {l : List Int} (h : OwnR (intRp k) base T F w v l) (hl : 0 < l.length) :
    ∃ g cap, v = .slice (some ⟨g, 0, none⟩) l.length cap ∧ base ≤ g ∧ g < w.heap.size ∧ l.length ≤ cap ∧ (∀ i, ∀ hi : i < l.length, w.cell? ⟨g, i, none⟩ = some (.int k l[i])) ∧ (∀ i, w.frozen? ⟨g, i, none⟩ = false) := by
  obtain ⟨hown, hk⟩ := h.ints
  rcases hown.2 with ⟨rfl, hn⟩ | ⟨g, cap, cur, rfl, hg, hh, hle, hmax, hsz, htake⟩
  · omega
  · exact ⟨g, cap, rfl, hg, heap_lt hh, hle, fun i hi => by rw [hown.cellAt i (by omega)]; simp [hi], fun i => hown.frozenAt i⟩
theorem OwnR.int_set {k : IntKind} {base : Nat} {T : TypeId} {F : Nat → Prop} {w : World} {g n cap : Nat} {l : List Int} (h : OwnR (intRp k) base T F w (.slice (some ⟨g, 0, none⟩) n cap) l) (hn : n = l.length) (i : Nat) (x : Int) (hx : InK k x) :
    OwnR (intRp k) base T F (w.setCell ⟨g, i, none⟩ (.int k x)) (.slice (some ⟨g, 0, none⟩) n cap) (l.set i x) := by
  subst hn
  obtain ⟨hown, hk⟩ := h.ints
  refine OwnR.ofInts (n := l.length) (by rw [List.map_set]; exact (hown.stored i _).1) (by simp) fun y hy => ?_
  rcases List.mem_or_eq_of_mem_set hy with hy | rfl
  · exact hk y hy
  · exact hx

theorem bytes_ext {a b : ByteArray} (h : a.toList = b.toList) : a = b := by
  rw [ByteArray.toList_eq, ByteArray.toList_eq] at h
  exact ByteArray.ext (Array.ext' h)
/-- Strings are compared by their bytes. -/
theorem str_eq (a b : ByteArray) : (a.toList == b.toList) = decide (a = b) := by
  by_cases h : a = b
  · subst h; simp
  · rw [decide_eq_false h]
    cases e : a.toList == b.toList with
    | false => rfl
    | true => exact absurd (bytes_ext (eq_of_beq e)) h
theorem str_eq_t {a b : ByteArray} (h : a = b) : (a.toList == b.toList) = true := by rw [str_eq]; exact decide_eq_true h
theorem str_eq_f {a b : ByteArray} (h : a ≠ b) : (a.toList == b.toList) = false := by rw [str_eq]; exact decide_eq_false h

/-- An element of an array that is a value. -/
theorem index_arr {P : Program} {t e : TypeId} {n : Nat} {d : TypeDesc} (w : World) (h : P.underlying t = some (.array n e)) (he : P.underlying e = some d) (hd : (match d with | .struct _ | .array _ _ => false | _ => true) = true)
    (hsz : (P.info? e).map (·.size) = some 1) (cs : Array Value) (k : IntKind) (i : Nat) (hi : i < n) (v : Value) (hv : cs[i]? = some v) : (Instr.index t (.agg cs) (.int k (i : Int))).run P w = .ok v w := by
  obtain ⟨inf, hinf, hs⟩ := Option.map_eq_some_iff.1 hsz
  simp [Instr.index, asIntOf, run_underlying h, sizeOf, typeInfo, hinf, hs, part, isAgg, run_underlying he]
  rw [if_pos hi, hv]
  cases d <;> simp_all

theorem results_tmp3 {fn : Func} {t u x : Tmp} (h : fn.results = #[.tmp t, .tmp u, .tmp x]) (tmps : Array Value) (P : Program) (w : World) :
    (results fn tmps).run P w = .ok (.tuple #[tmps.getD t undef, tmps.getD u undef, tmps.getD x undef]) w := by
  simp [results, h]

end Go.Proofs.YtdmhenanikkabaaDoor

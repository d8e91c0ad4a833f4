/- Layer 11's law ArenaPlays: the document's four arenas, as they stand in memory. No program text but the types' numbers. -/
import Derived.Test.YtpldogmamifdpaaDoorApart
import Derived.Test.YtpldogmamifdpaaDoorPlanRef
set_option linter.unusedVariables false
set_option linter.unusedSimpArgs false
namespace Go.Proofs.YtpldogmamifdpaaDoor
open Go Go.RowKit

structure Sl4 where
  qr : Option Addr
  cr : Nat
  qt : Option Addr
  ct : Nat
def updS (r : Nat → Sl4) (k : Nat) (s : Sl4) : Nat → Sl4 := fun i => if i = k then s else r i
theorem updS_same (r : Nat → Sl4) (k : Nat) (s : Sl4) : updS r k s k = s := if_pos rfl
theorem updS_ne {r : Nat → Sl4} {k i : Nat} {s : Sl4} (h : i ≠ k) : updS r k s i = r i := if_neg h

/-- The row of the document's arenas. -/
def Refs11 (w : World) (X : Nat) (f : Nat → Ar) (r : Nat → Sl4) : Prop := ∃ cs : Array Value, w.heap[X]? = some (.cells cs 65 (0, 0)) ∧ cs.size = 16 ∧ ∀ i, i < 4 →
  cs[i * 4]? = some (.int .i64 (refPg (f i).pg)) ∧ cs[i * 4 + 1]? = some (.int .i64 (16 - (f i).us)) ∧ cs[i * 4 + 2]? = some (.slice (r i).qr (f i).R.length (r i).cr) ∧ cs[i * 4 + 3]? = some (.slice (r i).qt (f i).T.length (r i).ct)
theorem Refs11.ch {w w' : World} {X : Nat} {f : Nat → Ar} {r : Nat → Sl4} {F : Nat → Prop} (h : Refs11 w X f r) (hc : Ch F w w') (hX : ¬ F X) : Refs11 w' X f r := by
  obtain ⟨cs, h1, h2⟩ := h
  exact ⟨cs, hc.heap h1 hX, h2⟩
theorem Refs11.lt {w : World} {X : Nat} {f : Nat → Ar} {r : Nat → Sl4} (h : Refs11 w X f r) : X < w.heap.size := by
  obtain ⟨cs, h1, _⟩ := h
  exact heap_lt h1
theorem Refs11.free {w : World} {X : Nat} {f : Nat → Ar} {r : Nat → Sl4} (h : Refs11 w X f r) (j : Nat) : w.frozen? ⟨X, j, none⟩ = false := by
  obtain ⟨cs, h1, _⟩ := h
  exact freeOf h1 j
theorem Refs11.cells {w : World} {X : Nat} {f : Nat → Ar} {r : Nat → Sl4} (h : Refs11 w X f r) {i : Nat} (hi : i < 4) :
    w.cell? ⟨X, i * 4, none⟩ = some (.int .i64 (refPg (f i).pg)) ∧ w.cell? ⟨X, i * 4 + 1, none⟩ = some (.int .i64 (16 - (f i).us)) ∧ w.cell? ⟨X, i * 4 + 2, none⟩ = some (.slice (r i).qr (f i).R.length (r i).cr) ∧ w.cell? ⟨X, i * 4 + 3, none⟩ = some (.slice (r i).qt (f i).T.length (r i).ct) := by
  obtain ⟨cs, h1, _, h3⟩ := h
  obtain ⟨a, b, c, d⟩ := h3 i hi
  exact ⟨cellOf h1 _ a, cellOf h1 _ b, cellOf h1 _ c, cellOf h1 _ d⟩
/-- One of them, set. -/
theorem Refs11.set {w : World} {X k : Nat} {f : Nat → Ar} {r : Nat → Sl4} (h : Refs11 w X f r) (hk : k < 4) (a : Ar) (s : Sl4) :
    Refs11 ((((w.setCell ⟨X, k * 4, none⟩ (.int .i64 (refPg a.pg))).setCell ⟨X, k * 4 + 1, none⟩ (.int .i64 (16 - a.us))).setCell ⟨X, k * 4 + 2, none⟩ (.slice s.qr a.R.length s.cr)).setCell ⟨X, k * 4 + 3, none⟩ (.slice s.qt a.T.length s.ct)) X (upd f k a) (updS r k s) := by
  obtain ⟨cs, h1, h2, h3⟩ := h
  refine ⟨_, heap_set (heap_set (heap_set (heap_set h1 _) _) _) _, by simpa using h2, fun i hi => ?_⟩
  simp only [Array.getElem?_setIfInBounds, Array.size_setIfInBounds, h2]
  by_cases hik : i = k
  · subst hik
    rw [upd_same, updS_same]
    refine ⟨?_, ?_, ?_, ?_⟩
    · rw [if_neg (by omega), if_neg (by omega), if_neg (by omega), if_pos rfl, if_pos (by omega)]
    · rw [if_neg (by omega), if_neg (by omega), if_pos rfl, if_pos (by omega)]
    · rw [if_neg (by omega), if_pos rfl, if_pos (by omega)]
    · rw [if_pos rfl, if_pos (by omega)]
  · rw [upd_ne hik, updS_ne hik]
    obtain ⟨a, b, c, d⟩ := h3 i hi
    refine ⟨?_, ?_, ?_, ?_⟩ <;> (rw [if_neg (by omega), if_neg (by omega), if_neg (by omega), if_neg (by omega)]; assumption)

/-- What the program writes. -/
def H11 (X g h : Nat) (f : Nat → Ar) : Nat → Prop := fun q => (q = X ∨ q = g ∨ q = h) ∨ ∃ j, j < 4 ∧ footA (f j) q
theorem H11.step {α : Type} {e : Rp α} {X g h k : Nat} {f : Nat → Ar} {A : Ar} {w w' : World} {a : Option Addr} {c : Nat} {l : List α} (hs : SlR e (H11 X g h f) w a c l) (hk : k < 4) (hc : Ch (fun q => footA (f k) q ∨ q = g ∨ q = h) w w')
    (hf : ∀ q, footA A q → footA (f k) q ∨ w.heap.size ≤ q) : SlR e (H11 X g h (upd f k A)) w' a c l := by
  refine hs.tr (fun q hq hn => hc.block q hq (fun z => hn ?_)) hc.size (fun q z => ?_)
  · rcases z with z | z | z
    · exact .inr ⟨k, hk, z⟩
    · exact .inl (.inr (.inl z))
    · exact .inl (.inr (.inr z))
  · rcases z with z | ⟨j, hj, z⟩
    · exact .inl (.inl z)
    · by_cases hjk : j = k
      · rw [hjk, upd_same] at z
        rcases hf q z with z | z
        · exact .inl (.inr ⟨k, hk, z⟩)
        · exact .inr z
      · rw [upd_ne hjk] at z
        exact .inl (.inr ⟨j, hj, z⟩)
/-- The rows of the document's arenas read as the program's do. -/
def Rows11 (H : Nat → Prop) (w : World) (f : Nat → Ar) (r : Nat → Sl4) : Prop := ∀ i, i < 4 → SlR (pairRp .i64) H w (r i).qr (r i).cr (f i).R ∧ SlR (pairRp .i64) H w (r i).qt (r i).ct (f i).T
theorem Rows11.ch0 {H : Nat → Prop} {w w' : World} {f : Nat → Ar} {r : Nat → Sl4} (h : Rows11 H w f r) (hc : Ch No w w') : Rows11 H w' f r := fun i hi => ⟨(h i hi).1.ch0 hc, (h i hi).2.ch0 hc⟩
theorem Rows11.ch {H G : Nat → Prop} {w w' : World} {f : Nat → Ar} {r : Nat → Sl4} (h : Rows11 H w f r) (hc : Ch G w w') (hG : ∀ q, G q → H q) : Rows11 H w' f r := fun i hi => ⟨(h i hi).1.ch hc hG, (h i hi).2.ch hc hG⟩
theorem Rows11.step {X g h k : Nat} {f : Nat → Ar} {A : Ar} {w w' : World} {r : Nat → Sl4} {s : Sl4} (hs : Rows11 (H11 X g h f) w f r) (hk : k < 4) (hc : Ch (fun q => footA (f k) q ∨ q = g ∨ q = h) w w')
    (hf : ∀ q, footA A q → footA (f k) q ∨ w.heap.size ≤ q) (h1 : SlR (pairRp .i64) (H11 X g h (upd f k A)) w' s.qr s.cr A.R) (h2 : SlR (pairRp .i64) (H11 X g h (upd f k A)) w' s.qt s.ct A.T) : Rows11 (H11 X g h (upd f k A)) w' (upd f k A) (updS r k s) := fun i hi => by
  by_cases hik : i = k
  · subst hik
    rw [upd_same, updS_same]
    exact ⟨h1, h2⟩
  · rw [upd_ne hik, updS_ne hik]
    exact ⟨H11.step (hs i hi).1 hk hc hf, H11.step (hs i hi).2 hk hc hf⟩
end Go.Proofs.YtpldogmamifdpaaDoor

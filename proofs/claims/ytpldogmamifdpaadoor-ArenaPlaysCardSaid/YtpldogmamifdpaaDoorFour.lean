/- Layer 11's laws ArenaApart, ArenaPlays: four arenas of the same pages; the acts. -/
import Derived.Test.YtpldogmamifdpaaDoorArena8
import Derived.Test.YtpldogmamifdpaaDoorLaw11A
set_option linter.unusedVariables false
set_option linter.unusedSimpArgs false
namespace Go.Proofs.YtpldogmamifdpaaDoor
open Go Go.RowKit

/-- An act: which arena, a size, whether it is released. -/
structure Act11 where
  wh : Int
  size : Int
  rel : Bool
def act11Rp : Rp Act11 := flat 3 (fun a => [.int .u8 a.wh, .int .i64 a.size, .bool a.rel]) (fun _ => rfl) (by intro x u hu; simp at hu; rcases hu with rfl | rfl | rfl <;> rfl) (fun a => InK .u8 a.wh ∧ I64 a.size)
theorem SlR.act11_at {F : Nat → Prop} {w : World} {a : Option Addr} {c : Nat} {l : List Act11} (h : SlR act11Rp F w a c l) (i : Nat) (hi : i < l.length) :
    ∃ b off, a = some ⟨b, off, none⟩ ∧ ¬ F b ∧ w.cell? ⟨b, off + i * 3, none⟩ = some (.int .u8 l[i].wh) ∧ w.cell? ⟨b, off + i * 3 + 1, none⟩ = some (.int .i64 l[i].size) ∧ w.cell? ⟨b, off + i * 3 + 2, none⟩ = some (.bool l[i].rel) ∧ InK .u8 l[i].wh ∧ I64 l[i].size := by
  obtain ⟨b, off, ha, hb, hlt, es, hc, he, hw⟩ := h.at_ i hi
  subst he
  exact ⟨b, off, ha, hb, hc 0 _ rfl, hc 1 _ rfl, hc 2 _ rfl, hw⟩

/-- An arena, as it lies, and as it is told. -/
structure Ar where
  b : Nat
  p : Nat
  pg : Int
  us : Int
  rv : Value
  tv : Value
  R : List (Int × Int)
  T : List (Int × Int)
def footA (a : Ar) : Nat → Prop := foot a.b a.p a.rv a.tv
def ArOk (w : World) (base s : Nat) (a : Ar) : Prop := ArenaAt w base a.b (.pointer (some ⟨s, 0, none⟩)) a.p a.pg a.us a.rv a.tv a.R a.T
def upd (f : Nat → Ar) (k : Nat) (a : Ar) : Nat → Ar := fun i => if i = k then a else f i
theorem upd_same (f : Nat → Ar) (k : Nat) (a : Ar) : upd f k a k = a := if_pos rfl
theorem upd_ne {f : Nat → Ar} {k i : Nat} {a : Ar} (h : i ≠ k) : upd f k a i = f i := if_neg h

/-- n arenas, apart. -/
structure Many11 (n : Nat) (w : World) (base s : Nat) (f : Nat → Ar) : Prop where
  ar : ∀ i, i < n → ArOk w base s (f i)
  ap : ∀ i j, i < n → j < n → i ≠ j → ∀ k, footA (f i) k → ¬ footA (f j) k
theorem Many11.ch {n : Nat} {w w' : World} {base s : Nat} {f : Nat → Ar} {F : Nat → Prop} (h : Many11 n w base s f) (hc : Ch F w w') (hF : ∀ k, F k → k < base ∨ w.heap.size ≤ k) : Many11 n w' base s f :=
  ⟨fun i hi => (h.ar i hi).ch hc (fun k q r => by
    have := (h.ar i hi).foot_bd k q
    rcases hF k r with r | r <;> omega), h.ap⟩
theorem Many11.ch0 {n : Nat} {w w' : World} {base s : Nat} {f : Nat → Ar} (h : Many11 n w base s f) (hc : Ch No w w') : Many11 n w' base s f := h.ch hc (fun k q => q.elim)
theorem Many11.bd {n : Nat} {w : World} {base s : Nat} {f : Nat → Ar} (h : Many11 n w base s f) {i k : Nat} (hi : i < n) (hk : footA (f i) k) : base ≤ k ∧ k < w.heap.size := (h.ar i hi).foot_bd k hk
/-- One of them turned. -/
theorem Many11.step {n : Nat} {w w' : World} {base s g h' : Nat} {f : Nat → Ar} {k : Nat} {a : Ar} (h : Many11 n w base s f) (hk : k < n) (hc : Ch (fun q => footA (f k) q ∨ q = g ∨ q = h') w w') (hg : g < base ∧ h' < base)
    (ha : ArOk w' base s a) (hsub : ∀ q, footA a q → footA (f k) q ∨ w.heap.size ≤ q) : Many11 n w' base s (upd f k a) := by
  refine ⟨fun i hi => ?_, fun i j hi hj hij q hq hq' => ?_⟩
  · by_cases hik : i = k
    · subst hik; rw [upd_same]; exact ha
    · rw [upd_ne hik]
      exact (h.ar i hi).ch hc (fun q hq hq' => by
        have := h.bd hi hq
        rcases hq' with r | r | r
        · exact h.ap i k hi hk hik q hq r
        · omega
        · omega)
  · by_cases hik : i = k
    · have hjk : j ≠ k := fun e => hij (hik.trans e.symm)
      rw [hik, upd_same] at hq
      rw [upd_ne hjk] at hq'
      rcases hsub q hq with r | r
      · exact h.ap k j hk hj (Ne.symm hjk) q r hq'
      · have := h.bd hj hq'; omega
    · rw [upd_ne hik] at hq
      by_cases hjk : j = k
      · rw [hjk, upd_same] at hq'
        rcases hsub q hq' with r | r
        · exact h.ap i k hi hk hik q hq r
        · have := h.bd hi hq; omega
      · rw [upd_ne hjk] at hq'
        exact h.ap i j hi hj hij q hq hq'
/-- One more. -/
theorem Many11.more {n : Nat} {w w' : World} {base s : Nat} {f : Nat → Ar} {a : Ar} (h : Many11 n w base s f) (hc : Ch No w w') (ha : ArOk w' base s a) (hsub : ∀ q, footA a q → w.heap.size ≤ q) : Many11 (n + 1) w' base s (upd f n a) := by
  refine ⟨fun i hi => ?_, fun i j hi hj hij q hq hq' => ?_⟩
  · by_cases hik : i = n
    · subst hik; rw [upd_same]; exact ha
    · rw [upd_ne hik]
      exact (h.ar i (by omega)).ch0 hc
  · by_cases hik : i = n
    · have hjk : j ≠ n := fun e => hij (hik.trans e.symm)
      rw [hik, upd_same] at hq
      rw [upd_ne hjk] at hq'
      have := h.bd (by omega) hq'
      have := hsub q hq
      omega
    · rw [upd_ne hik] at hq
      by_cases hjk : j = n
      · rw [hjk, upd_same] at hq'
        have := h.bd (by omega) hq
        have := hsub q hq'
        omega
      · rw [upd_ne hjk] at hq'
        exact h.ap i j (by omega) (by omega) hij q hq hq'

/-- The row of their addresses. -/
def Ptrs (n : Nat) (w : World) (B : Nat) (f : Nat → Ar) : Prop := ∃ cs : Array Value, w.heap[B]? = some (.cells cs 49 (0, 0)) ∧ cs.size = 4 ∧ ∀ i, i < n → cs[i]? = some (.pointer (some ⟨(f i).b, 0, none⟩))
theorem Ptrs.ch {n : Nat} {w w' : World} {B : Nat} {f : Nat → Ar} {F : Nat → Prop} (h : Ptrs n w B f) (hc : Ch F w w') (hB : ¬ F B) : Ptrs n w' B f := by
  obtain ⟨cs, h1, h2, h3⟩ := h
  exact ⟨cs, hc.heap h1 hB, h2, h3⟩
theorem Ptrs.updB {n : Nat} {w : World} {B : Nat} {f : Nat → Ar} {k : Nat} {a : Ar} (h : Ptrs n w B f) (ha : a.b = (f k).b) : Ptrs n w B (upd f k a) := by
  obtain ⟨cs, h1, h2, h3⟩ := h
  refine ⟨cs, h1, h2, fun i hi => ?_⟩
  by_cases hik : i = k
  · subst hik; rw [upd_same, ha]; exact h3 i hi
  · rw [upd_ne hik]; exact h3 i hi
theorem Ptrs.cell {n : Nat} {w : World} {B : Nat} {f : Nat → Ar} (h : Ptrs n w B f) {i : Nat} (hi : i < n) : w.cell? ⟨B, i, none⟩ = some (.pointer (some ⟨(f i).b, 0, none⟩)) := by
  obtain ⟨cs, h1, h2, h3⟩ := h
  exact cellOf h1 i (h3 i hi)
theorem Ptrs.more {n : Nat} {w : World} {B : Nat} {f : Nat → Ar} {a : Ar} (h : Ptrs n w B f) (hn : n < 4) : Ptrs (n + 1) (w.setCell ⟨B, n, none⟩ (.pointer (some ⟨a.b, 0, none⟩))) B (upd f n a) := by
  obtain ⟨cs, h1, h2, h3⟩ := h
  refine ⟨_, heap_set h1 _, by simpa using h2, fun i hi => ?_⟩
  by_cases hik : i = n
  · subst hik; rw [upd_same, Array.getElem?_setIfInBounds, if_pos rfl, if_pos (by omega)]
  · rw [upd_ne hik, Array.getElem?_setIfInBounds, if_neg (by omega)]; exact h3 i (by omega)

set_option maxRecDepth 100000 in
/-- Read, of a word that is there. -/
theorem words_Read (w : World) (m h : Nat) (W : List Int) (i : Nat) (hm : MemAt w m h W) (hi : i < W.length) :
    Calls Tryd.prog 22 #[.pointer (some ⟨m, 0, none⟩), .int .i64 i] w fun e w' => e = .returned (.tuple #[.int .u64 (W.getD i 0), .int .i64 0]) ∧ w = w' := by
  have c0 := cellOf hm.head 0 rfl
  have hle := hm.le
  have c1 : w.cell? ⟨h, i, none⟩ = some (.int .u64 (W.getD i 0)) := cellOf hm.row i (by simp [ints, hi])
  obtain ⟨v, hv⟩ : ∃ v, v = W.getD i 0 := ⟨_, rfl⟩
  rw [← hv] at c1 ⊢
  clear hv
  have b1 : decide ((i : Int) < 0) = false := decide_eq_false (by omega)
  have b2 : decide ((i : Int) ≥ (W.length : Int)) = false := decide_eq_false (by omega)
  go_enter Tryd.func22, Tryd.ntmps22
  go_wp2_with fail
  go_ret2
  exact ⟨rfl, rfl⟩
/-- A new arena. -/
def Fresh11 (a : Ar) : Prop := a.pg = -1 ∧ a.us = 16 ∧ a.rv = .slice none 0 0 ∧ a.tv = .slice none 0 0 ∧ a.R = [] ∧ a.T = []
def fresh11 (b p : Nat) : Ar := ⟨b, p, -1, 16, .slice none 0 0, .slice none 0 0, [], []⟩
theorem fresh11_foot {b p k : Nat} (h : footA (fresh11 b p) k) : k = b ∨ k = p := by
  rcases h with q | q | q | q
  · exact .inl q
  · exact .inr q
  · simp [fresh11, Value.ownBlock] at q
  · simp [fresh11, Value.ownBlock] at q
end Go.Proofs.YtpldogmamifdpaaDoor

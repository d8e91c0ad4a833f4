/- Rows that the call owns, of things of some cells each: reading and setting one cell. No program text. -/
import Derived.Test.YtpldogmamifdpaaDoorKit
set_option linter.unusedVariables false
set_option linter.unusedSimpArgs false
namespace Go.Proofs.YtpldogmamifdpaaDoor
open Go Go.RowKit

theorem row_at {i q n j t : Nat} (hj : j < n) (ht : t < n) (h : i * n + j = q * n + t) : i = q ∧ j = t := by
  have : i = q := by
    rcases Nat.lt_trichotomy i q with hl | e | hl
    · have := Nat.mul_le_mul_right n (show i + 1 ≤ q from hl); rw [Nat.succ_mul] at this; omega
    · exact e
    · have := Nat.mul_le_mul_right n (show q + 1 ≤ i from hl); rw [Nat.succ_mul] at this; omega
  subst this
  exact ⟨rfl, by omega⟩

section
variable {α : Type} {n : Nat} {f : α → List Value} {hn : ∀ x, (f x).length = n} {h1 : ∀ x, ∀ u ∈ f x, u.oneCell' = true} {P : α → Prop} {base : Nat} {T : TypeId} {F : Nat → Prop} {w : World} {l : List α}

theorem OwnR.flat_form {v : Value} (h : OwnR (flat n f hn h1 P) base T F w v l) (hl : 0 < l.length) :
    ∃ g cap, v = .slice (some ⟨g, 0, none⟩) l.length cap ∧ base ≤ g ∧ g < w.heap.size ∧ (∀ i, ∀ hi : i < l.length, ∀ j u, (f l[i])[j]? = some u → w.cell? ⟨g, i * n + j, none⟩ = some u) ∧ (∀ i, w.frozen? ⟨g, i, none⟩ = false) ∧ ∀ i, ∀ hi : i < l.length, P l[i] := by
  obtain ⟨xs, hown, hr⟩ := h
  rcases hown.2 with ⟨rfl, hz⟩ | ⟨g, cap, cur, rfl, hg, hh, hle, hmax, hsz, htake⟩
  · omega
  · refine ⟨g, cap, rfl, hg, heap_lt hh, fun i hi j u hu => ?_, fun i => hown.frozenAt i, fun i hi => (hr i hi).2⟩
    have hj : j < n := by rw [← hn l[i]]; exact (List.getElem?_eq_some_iff.1 hu).1
    have hlt : i * n + j < l.length * n := by have := Nat.mul_le_mul_right n (show i + 1 ≤ l.length from hi); rw [Nat.succ_mul] at this; omega
    rw [hown.cellAt _ hlt]
    have e : (xs.drop (i * n)).take n = f l[i] := (hr i hi).1
    rw [← e, List.getElem?_take, if_pos hj, List.getElem?_drop] at hu
    exact hu

theorem OwnR.flat_set {g m cap : Nat} (h : OwnR (flat n f hn h1 P) base T F w (.slice (some ⟨g, 0, none⟩) m cap) l) (hm : m = l.length) (i j : Nat) (hi : i < l.length) (hj : j < n) (x : α) (u : Value) (hx : f x = (f l[i]).set j u) (hP : P x) :
    OwnR (flat n f hn h1 P) base T F (w.setCell ⟨g, i * n + j, none⟩ u) (.slice (some ⟨g, 0, none⟩) m cap) (l.set i x) := by
  subst hm
  obtain ⟨xs, hown, hr⟩ := h
  refine ⟨xs.set (i * n + j) u, by rw [List.length_set]; exact (hown.stored _ u).1, fun q hq => ?_⟩
  rw [List.length_set] at hq
  have hq' := hr q hq
  show (((xs.set (i * n + j) u).drop (q * n)).take n = f _ ∧ P _)
  by_cases e : i = q
  · subst e
    rw [List.getElem_set_self]
    refine ⟨?_, hP⟩
    have e1 : (xs.drop (i * n)).take n = f l[i] := (hr i hi).1
    rw [hx, ← e1, List.drop_set, if_neg (by omega), List.take_set]
    congr 1
    omega
  · rw [List.getElem_set_ne e]
    refine ⟨?_, hq'.2⟩
    have e2 : (xs.drop (q * n)).take n = f l[q] := hq'.1
    rw [← e2]
    apply List.ext_getElem?
    intro t
    rw [List.getElem?_take, List.getElem?_take]
    by_cases ht : t < n
    · rw [if_pos ht, if_pos ht, List.getElem?_drop, List.getElem?_drop, List.getElem?_set_ne]
      exact fun e' => e (row_at hj ht e').1
    · rw [if_neg ht, if_neg ht]
end
end Go.Proofs.YtpldogmamifdpaaDoor

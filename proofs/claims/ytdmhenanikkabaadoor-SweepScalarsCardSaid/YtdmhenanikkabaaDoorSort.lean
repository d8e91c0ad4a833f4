/- Sorting a row of whole numbers that the call owns. -/
import Derived.Test.YtdmhenanikkabaaDoorKit
import Derived.Test.YtdmhenanikkabaaDoorShelf
import Derived.Sort.OwnSortedInts
set_option linter.unusedVariables false
set_option linter.unusedSimpArgs false
namespace Go.Proofs.YtdmhenanikkabaaDoor
open Go Go.RowKit

/-- Sorted, rising. -/
def sorted (l : List Int) : List Int := l.mergeSort fun x y => decide (x ≤ y)
theorem sorted_length (l : List Int) : (sorted l).length = l.length := List.length_mergeSort l
theorem mem_sorted {l : List Int} {x : Int} : x ∈ sorted l ↔ x ∈ l := List.mem_mergeSort
theorem sorted_of {l : List Int} (h : l.Pairwise (· ≤ ·)) : sorted l = l := List.mergeSort_of_pairwise (h.imp (fun h => decide_eq_true h))
theorem sorted_perm (l : List Int) : (sorted l).Perm l := List.mergeSort_perm l _
theorem sorted_pairwise (l : List Int) : (sorted l).Pairwise (· ≤ ·) :=
  (List.pairwise_mergeSort (le := fun x y => decide (x ≤ y)) (fun a b c h1 h2 => by simp at *; omega) (fun a b => by simp; omega) l).imp (fun h => of_decide_eq_true h)
/-- Two rising lists with the same members. -/
theorem rising_eq : ∀ {l k : List Int}, l.Pairwise (· < ·) → k.Pairwise (· < ·) → (∀ x, x ∈ l ↔ x ∈ k) → l = k
  | [], [], _, _, _ => rfl
  | [], y :: k, _, _, h => absurd ((h y).2 (by simp)) (by simp)
  | x :: l, [], _, _, h => absurd ((h x).1 (by simp)) (by simp)
  | x :: l, y :: k, hl, hk, h => by
    rw [List.pairwise_cons] at hl hk
    have hxy : x = y := by
      rcases List.mem_cons.1 ((h x).1 (by simp)) with e | e
      · exact e
      · rcases List.mem_cons.1 ((h y).2 (by simp)) with e' | e'
        · exact e'.symm
        · have h1 := hk.1 x e
          have h2 := hl.1 y e'
          omega
    subst hxy
    rw [rising_eq hl.2 hk.2 (fun z => ?_)]
    constructor
    · intro hz
      rcases List.mem_cons.1 ((h z).1 (List.mem_cons_of_mem _ hz)) with e | e
      · subst e; have := hl.1 z hz; omega
      · exact e
    · intro hz
      rcases List.mem_cons.1 ((h z).2 (List.mem_cons_of_mem _ hz)) with e | e
      · subst e; have := hk.1 z hz; omega
      · exact e
/-- The members of a list without doubles, sorted, are the rising list of them. -/
theorem sorted_eq {l k : List Int} (hn : l.Nodup) (hk : k.Pairwise (· < ·)) (h : ∀ x, x ∈ l ↔ x ∈ k) : sorted l = k := by
  refine rising_eq ?_ hk (fun x => mem_sorted.trans (h x))
  have h1 := sorted_pairwise l
  have h2 : (sorted l).Nodup := (sorted_perm l).nodup_iff.2 hn
  exact h1.imp₂ (fun a b h h' => by have : a ≠ b := h'; omega) h2

theorem sort_own (w : World) (base : Nat) (v : Value) (l : List Int) (h : OwnR (intRp .i64) base 3 No w v l) (hl : l.length < 4611686018427387904) :
    Calls Tryd.prog 29 #[v] w fun e w' => e = .returned (.tuple #[]) ∧ OwnR (intRp .i64) base 3 No w' v (sorted l) ∧ Ch (fun k => v.ownBlock = some k) w w' := by
  obtain ⟨hown, hk⟩ := h.ints
  rcases hown.2 with ⟨rfl, hn⟩ | ⟨g, cap, cur, rfl, hg, hh, hle, hmax, hsz, htake⟩
  · obtain rfl : l = [] := List.eq_nil_of_length_eq_zero hn
    refine (Tryd.slices_Sort_int_none none 0 w).mono ?_
    rintro e w' ⟨rfl, rfl⟩
    exact ⟨rfl, by rw [show sorted [] = [] from by simp [sorted]]; exact OwnR.nilR _ _ _ _ _, Ch.refl _ _⟩
  · have hH : Go.Sort.Holds (Value.int .i64) w g 0 l.toArray := holds_of_blockI hh (by simpa using htake)
    refine (Tryd.slices_Sort_int g 0 cap l w hH (heap_lt hh) hl).mono ?_
    rintro e w' ⟨rfl, n, os, rfl⟩
    have ho := ownsRow_sortedI (n := n) (os := os) (ss := l) (ts := sorted l) (by rw [sorted_length]) hg hh hle hmax hsz
    refine ⟨rfl, OwnR.ofInts ho (sorted_length l).symm (fun x hx => hk x (mem_sorted.1 hx)), ?_⟩
    exact (Ch.refl _ _).grown (grownBy_sortedI _) (fun k e => .inr (by cases e; simp [Value.ownBlock]))
end Go.Proofs.YtdmhenanikkabaaDoor

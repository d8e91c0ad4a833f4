/- Layer 9: marked places, as a rising list of numbers: what Put, Drop, In, Before do to it. -/
import Derived.Test.YtpldogmamifdpaaRef09d
import Derived.Test.YtpldogmamifdpaaLaw09
set_option linter.unusedVariables false
set_option linter.unusedSimpArgs false
namespace Go.Proofs.Ytpldogmamifdpaa
open Go Go.RowKit

def optM (r : Option Nat) : Nat := r.getD 0
theorem optM_eq (r : Option Nat) : optV r = .tuple #[.int .i64 (optM r), .bool r.isSome] := by cases r <;> rfl
theorem quiet_eq9 {P : Program} {f : FuncId} {args : Array Value} {w : World} {n : Nat} {v : Value}
    (h : Calls P f args (w.drewN n) fun e w' => e = .returned v ∧ w.drewN n = w') : Calls P f args (w.drewN n) fun e w'' => e = .returned v ∧ ∃ m, w'' = w.drewN m :=
  h.mono fun _ _ ⟨he, hm⟩ => ⟨he, n, hm.symm⟩

def ones (x : List Bool) : List Int := ((List.range x.length).filter fun i => x.getD i false).map fun i : Nat => (i : Int)

theorem mem_ones {x : List Bool} {y : Int} : y ∈ ones x ↔ ∃ i : Nat, y = i ∧ x.getD i false = true := by
  unfold ones
  simp only [List.mem_map, List.mem_filter, List.mem_range]
  constructor
  · rintro ⟨i, ⟨_, h⟩, rfl⟩; exact ⟨i, rfl, h⟩
  · rintro ⟨i, rfl, h⟩
    refine ⟨i, ⟨?_, h⟩, rfl⟩
    rcases Nat.lt_or_ge i x.length with q | q
    · exact q
    · rw [getD_out x i q] at h; cases h
theorem mem_ones_nat {x : List Bool} {i : Nat} : (i : Int) ∈ ones x ↔ x.getD i false = true := by
  rw [mem_ones]
  constructor
  · rintro ⟨j, h, hj⟩
    obtain rfl : i = j := by omega
    exact hj
  · intro h; exact ⟨i, rfl, h⟩
theorem cast_sorted {l : List Nat} (h : l.Pairwise (· < ·)) : (l.map fun i : Nat => (i : Int)).Pairwise (· < ·) := by
  rw [List.pairwise_map]
  exact h.imp fun {a b} h => by omega
theorem ones_sorted (x : List Bool) : (ones x).Pairwise (· < ·) := cast_sorted (List.pairwise_lt_range.filter _)
theorem sorted_unique : ∀ {l l' : List Int}, l.Pairwise (· < ·) → l'.Pairwise (· < ·) → (∀ y, y ∈ l ↔ y ∈ l') → l = l'
  | [], [], _, _, _ => rfl
  | [], b :: l', _, _, h => absurd ((h b).2 (List.mem_cons_self ..)) (by simp)
  | a :: l, [], _, _, h => absurd ((h a).1 (List.mem_cons_self ..)) (by simp)
  | a :: l, b :: l', h1, h2, h => by
    rw [List.pairwise_cons] at h1 h2
    have hab : a = b := by
      rcases List.mem_cons.1 ((h a).1 (List.mem_cons_self ..)) with q | q
      · exact q
      · rcases List.mem_cons.1 ((h b).2 (List.mem_cons_self ..)) with q2 | q2
        · exact q2.symm
        · have := h1.1 b q2
          have := h2.1 a q
          omega
    subst hab
    rw [sorted_unique h1.2 h2.2 fun y => ?_]
    have hy := h y
    simp only [List.mem_cons] at hy
    constructor
    · intro q
      rcases hy.1 (.inr q) with r | r
      · have := h1.1 y q; omega
      · exact r
    · intro q
      rcases hy.2 (.inr q) with r | r
      · have := h2.1 y q; omega
      · exact r
theorem eq_ones {L : List Int} {x : List Bool} (h : L.Pairwise (· < ·)) (hm : ∀ y, y ∈ L ↔ ∃ i : Nat, y = i ∧ x.getD i false = true) : L = ones x :=
  sorted_unique h (ones_sorted x) fun y => by rw [hm, mem_ones]
theorem ones_length (x : List Bool) : (ones x).length = cntTo x x.length := by
  unfold ones
  rw [List.length_map]
  have key : ∀ k, ((List.range k).filter fun i => x.getD i false).length = cntTo x k := by
    intro k
    induction k with
    | zero => rfl
    | succ k ih =>
      rw [List.range_succ, List.filter_append, List.length_append, ih, show cntTo x (k + 1) = cntTo x k + (if x.getD k false then 1 else 0) from rfl]
      cases h : x.getD k false
      · rw [List.filter_cons_of_neg (by rw [h]; simp)]; rfl
      · rw [List.filter_cons_of_pos (by rw [h])]; rfl
  exact key _
theorem ones_le (x : List Bool) : (ones x).length ≤ x.length := by
  unfold ones
  rw [List.length_map]
  exact Nat.le_trans (List.length_filter_le _ _) (by simp)
theorem ones_bd {x : List Bool} (h : x.length ≤ 16384) : ∀ y ∈ ones x, 0 ≤ y ∧ y ≤ 16384 := by
  intro y hy
  obtain ⟨i, rfl, hi⟩ := mem_ones.1 hy
  rcases Nat.lt_or_ge i x.length with q | q
  · omega
  · rw [getD_out x i q] at hi; cases hi
theorem ones_nil (n : Nat) : ones (List.replicate n false) = [] := by
  refine List.eq_nil_iff_forall_not_mem.2 fun y hy => ?_
  obtain ⟨i, rfl, hi⟩ := mem_ones.1 hy
  simp [List.getD_eq_getElem?_getD, List.getElem?_replicate] at hi
  split at hi <;> simp at hi
theorem is_ones (x : List Bool) (i : Int) : decide (i ∈ ones x) = getB x i := by
  by_cases h0 : 0 ≤ i
  · obtain ⟨k, rfl⟩ : ∃ k : Nat, i = k := ⟨i.toNat, by omega⟩
    rw [getB_nat]
    cases h : x.getD k false
    · exact decide_eq_false (fun q => by rw [mem_ones_nat.1 q] at h; cases h)
    · exact decide_eq_true (mem_ones_nat.2 h)
  · rw [show getB x i = false by unfold getB; rw [decide_eq_false (by omega)]; rfl]
    exact decide_eq_false (fun q => by obtain ⟨k, rfl, _⟩ := mem_ones.1 q; omega)

theorem put_ones {x : List Bool} {i : Int} {l' : List Int} {E : Int} (h : PutTo (ones x) x.length i l' E) : l' = ones (putL9 x i) ∧ E = putE9 x i := by
  unfold PutTo at h
  unfold putL9 putE9
  by_cases h1 : i < 1 ∨ (x.length : Int) ≤ i
  · rw [if_pos h1] at h ⊢
    rw [if_pos h1]
    exact h
  · rw [if_neg h1] at h ⊢
    rw [if_neg h1]
    have hi := is_ones x i
    by_cases h2 : i ∈ ones x
    · rw [if_pos h2] at h
      rw [decide_eq_true h2] at hi
      rw [if_pos hi.symm]
      refine ⟨?_, h.2⟩
      obtain ⟨k, rfl, hk⟩ := mem_ones.1 h2
      rw [Int.toNat_natCast, set_self x k hk]
      exact h.1
    · rw [if_neg h2] at h
      rw [decide_eq_false h2] at hi
      rw [if_neg (by rw [← hi]; simp)]
      refine ⟨eq_ones h.2.1 fun y => ?_, h.1⟩
      rw [h.2.2 y, mem_ones]
      obtain ⟨k, rfl⟩ : ∃ k : Nat, i = k := ⟨i.toNat, by omega⟩
      rw [Int.toNat_natCast]
      constructor
      · rintro (rfl | ⟨j, rfl, hj⟩)
        · exact ⟨k, rfl, by rw [getD_set _ _ _ _ (by omega), if_pos rfl]⟩
        · refine ⟨j, rfl, ?_⟩
          rw [getD_set _ _ _ _ (by omega)]
          split
          · rfl
          · exact hj
      · rintro ⟨j, rfl, hj⟩
        rw [getD_set _ _ _ _ (by omega)] at hj
        split at hj
        · rename_i e
          exact .inl (by omega)
        · exact .inr ⟨j, rfl, hj⟩

theorem drop_ones (x : List Bool) (f n : Int) : ((ones x).filter fun y => !inP f n y) = ones (clearAll x (inL x f n)) := by
  refine eq_ones ((ones_sorted x).filter _) fun y => ?_
  rw [List.mem_filter, mem_ones]
  constructor
  · rintro ⟨⟨i, rfl, hi⟩, hq⟩
    refine ⟨i, rfl, ?_⟩
    rw [clearAll_get, if_neg, hi]
    intro hm
    have := mem_inL.1 hm
    rw [show inP f n (i : Int) = true from decide_eq_true ⟨this.2.2.1, this.2.2.2.1, this.2.2.2.2.1, this.2.2.2.2.2⟩] at hq
    simp at hq
  · rintro ⟨i, rfl, hi⟩
    rw [clearAll_get] at hi
    split at hi
    · cases hi
    · rename_i hn
      refine ⟨⟨i, rfl, hi⟩, ?_⟩
      have hlt : i < x.length := by
        rcases Nat.lt_or_ge i x.length with q | q
        · exact q
        · rw [getD_out x i q] at hi; cases hi
      rw [show inP f n (i : Int) = false from decide_eq_false (fun q => hn (mem_inL.2 ⟨hlt, hi, q.1, q.2.1, q.2.2.1, q.2.2.2⟩))]
      rfl
theorem in_ones (x : List Bool) (f n : Int) : (ones x).filter (inP f n) = (inL x f n).map fun i : Nat => (i : Int) := by
  refine sorted_unique ((ones_sorted x).filter _) (cast_sorted ?_) fun y => ?_
  · unfold inL inFrom
    split
    · exact List.Pairwise.nil
    · exact List.pairwise_lt_range.filter _
  · rw [List.mem_filter, mem_ones, List.mem_map]
    constructor
    · rintro ⟨⟨i, rfl, hi⟩, hq⟩
      have hq := of_decide_eq_true hq
      have hlt : i < x.length := by
        rcases Nat.lt_or_ge i x.length with q | q
        · exact q
        · rw [getD_out x i q] at hi; cases hi
      exact ⟨i, mem_inL.2 ⟨hlt, hi, hq.1, hq.2.1, hq.2.2.1, hq.2.2.2⟩, rfl⟩
    · rintro ⟨i, hi, rfl⟩
      have := mem_inL.1 hi
      exact ⟨⟨i, rfl, this.2.1⟩, decide_eq_true ⟨this.2.2.1, this.2.2.2.1, this.2.2.2.2.1, this.2.2.2.2.2⟩⟩
theorem in_ones_len (x : List Bool) (f n : Int) : ((ones x).filter (inP f n)).length = (inL x f n).length := by rw [in_ones, List.length_map]
theorem in_all {x : List Bool} (h : x.length ≤ 16384) : ((inL x 0 1099511627776).map fun i : Nat => (i : Int)) = ones x := by
  rw [← in_ones]
  refine List.filter_eq_self.2 fun y hy => ?_
  have := ones_bd h y hy
  exact decide_eq_true (by omega)

theorem lastLe_spec (l : List Int) (i : Int) (hs : l.Pairwise (· < ·)) : ∀ k, k ≤ l.length →
    (lastLe l i k = 0 ∧ ∀ y ∈ l.take k, ¬ y ≤ i) ∨ (lastLe l i k ∈ l.take k ∧ lastLe l i k ≤ i ∧ ∀ y ∈ l.take k, y ≤ i → y ≤ lastLe l i k)
  | 0, _ => .inl ⟨rfl, by simp⟩
  | k + 1, hk => by
    have hlt : k < l.length := by omega
    have hg : l.getD k 0 = l[k] := by simp [List.getD_eq_getElem?_getD, hlt]
    have htk := List.take_succ_eq_append_getElem hlt
    have hlo : ∀ y ∈ l.take k, y < l[k] := by
      have hs' := hs
      rw [← List.take_append_drop k l, List.pairwise_append] at hs'
      intro y hy
      exact hs'.2.2 y hy _ (by rw [List.drop_eq_getElem_cons hlt]; exact List.mem_cons_self ..)
    rw [lastLe, hg]
    by_cases h : l[k] ≤ i
    · rw [if_pos ⟨h, hlt⟩]
      refine .inr ⟨by rw [htk]; exact List.mem_append_right _ (List.mem_singleton.2 rfl), h, fun y hy _ => ?_⟩
      rw [htk] at hy
      rcases List.mem_append.1 hy with q | q
      · have := hlo y q; omega
      · rw [List.mem_singleton.1 q]; exact Int.le_refl _
    · rw [if_neg (fun q => h q.1)]
      rcases lastLe_spec l i hs k (by omega) with ⟨h1, h2⟩ | ⟨h1, h2, h3⟩
      · refine .inl ⟨h1, fun y hy => ?_⟩
        rw [htk] at hy
        rcases List.mem_append.1 hy with q | q
        · exact h2 y q
        · rw [List.mem_singleton.1 q]; exact h
      · refine .inr ⟨by rw [htk]; exact List.mem_append_left _ h1, h2, fun y hy hyi => ?_⟩
        rw [htk] at hy
        rcases List.mem_append.1 hy with q | q
        · exact h3 y q hyi
        · rw [List.mem_singleton.1 q] at hyi; exact absurd hyi h

theorem last_ones {x : List Bool} {f : Int} {r : Option Nat} (h0 : x.getD 0 false = false) (h : IsLast x f r) : lastLe (ones x) f (ones x).length = (optM r : Int) ∧ decide (lastLe (ones x) f (ones x).length > 0) = r.isSome := by
  have hsp := lastLe_spec (ones x) f (ones_sorted x) _ (Nat.le_refl _)
  rw [List.take_length] at hsp
  have key : lastLe (ones x) f (ones x).length = (optM r : Int) := by
    cases r with
    | none =>
      rcases hsp with ⟨h1, _⟩ | ⟨h1, h2, _⟩
      · exact h1
      · obtain ⟨k, hk, hx⟩ := mem_ones.1 h1
        rw [hk] at h2
        have : 1 ≤ k := by
          rcases Nat.eq_zero_or_pos k with q | q
          · subst q; rw [h0] at hx; cases hx
          · exact q
        rw [h k this h2] at hx; cases hx
    | some j =>
      obtain ⟨j1, j2, j3, j4⟩ := h
      have hj : (j : Int) ∈ ones x := mem_ones_nat.2 j3
      rcases hsp with ⟨_, h2⟩ | ⟨h1, h2, h3⟩
      · exact absurd j2 (h2 _ hj)
      · obtain ⟨k, hk, hx⟩ := mem_ones.1 h1
        rw [hk] at h2
        have := h3 _ hj j2
        rw [hk] at this ⊢
        show (k : Int) = (j : Int)
        rcases Nat.lt_or_ge j k with q | q
        · rw [j4 k q h2] at hx; cases hx
        · omega
  refine ⟨key, ?_⟩
  rw [key]
  cases r with
  | none => exact decide_eq_false (by simp [optM])
  | some j =>
    have := h.1
    exact decide_eq_true (by simp [optM]; omega)

/-- Is, at a number that stands as a place of the kind uint64. -/
theorem is_wrap {x : List Bool} (hx : x.length ≤ 16384) (i : Int) (hi : I64 i) : getB x (IntKind.u64.wrap i) = (decide (i ≥ 0) && decide (i ∈ ones x)) := by
  have hi' := hi.bd
  rw [is_ones]
  by_cases h : i ≥ 0
  · rw [decide_eq_true h, Bool.true_and, IntKind.wrap_u64]
    rw [show i % 18446744073709551616 = i by omega]
  · rw [decide_eq_false h, Bool.false_and]
    unfold getB
    rw [decide_eq_false]
    · rfl
    · rw [IntKind.wrap_u64]; omega
theorem putL9_one (x : List Bool) (i : Int) (h : x.getD 0 false = false) : (putL9 x i).getD 0 false = false := put0 x i h
end Go.Proofs.Ytpldogmamifdpaa

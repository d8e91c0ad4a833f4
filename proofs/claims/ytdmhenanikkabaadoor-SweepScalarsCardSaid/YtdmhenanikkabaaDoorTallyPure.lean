/- Counts as a rising list of pairs: plain Lean. -/
import Derived.Test.YtdmhenanikkabaaDoorMaps
set_option linter.unusedVariables false
set_option linter.unusedSimpArgs false
namespace Go.Proofs.YtdmhenanikkabaaDoor
open Go

abbrev Rows := List (Int × Int)
/-- A number's count; 0. -/
def cnt : Rows → Int → Int
  | [], _ => 0
  | (j, n) :: r, k => if j = k then n else cnt r k
/-- The rest of a row, set: is it laid already? -/
def ins (k n : Int) : Bool → Rows → Rows
  | laid, [] => if laid then [] else [(k, n)]
  | laid, x :: r => (if !laid && decide (x.1 > k) then [(k, n)] else []) ++ ((if x.1 = k then [] else [x]) ++ ins k n (laid || decide (x.1 > k)) r)
def rset (L : Rows) (k n : Int) : Rows := ins k n (decide (n = 0)) L

/-- Rising rows of counts that aren't 0, of numbers from 1 on. -/
structure Rising (L : Rows) : Prop where
  up : L.Pairwise (fun x y => x.1 < y.1)
  ok : ∀ x ∈ L, 1 ≤ x.1 ∧ 1 ≤ x.2 ∧ x.2 ≤ 2147483647 ∧ x.1 ≤ 9223372036854775807
theorem Rising.nil : Rising [] := ⟨List.Pairwise.nil, by simp⟩
theorem Rising.tail {x : Int × Int} {L : Rows} (h : Rising (x :: L)) : Rising L := ⟨(List.pairwise_cons.1 h.up).2, fun y hy => h.ok y (List.mem_cons_of_mem _ hy)⟩

theorem cnt_zero {L : Rows} {k : Int} (h : ∀ x ∈ L, x.1 ≠ k) : cnt L k = 0 := by
  induction L with
  | nil => rfl
  | cons x r ih =>
    obtain ⟨j, n⟩ := x
    simp only [cnt]
    rw [if_neg (h (j, n) (by simp)), ih (fun y hy => h y (List.mem_cons_of_mem _ hy))]
theorem cnt_mem {L : Rows} {k : Int} (h : cnt L k ≠ 0) : (k, cnt L k) ∈ L := by
  induction L with
  | nil => exact absurd rfl h
  | cons x r ih =>
    obtain ⟨j, n⟩ := x
    simp only [cnt] at h ⊢
    split
    · rename_i e; subst e; simp
    · rename_i e; rw [if_neg e] at h; exact List.mem_cons_of_mem _ (ih h)
theorem mem_cnt {L : Rows} (h : Rising L) : ∀ x ∈ L, cnt L x.1 = x.2 := by
  induction L with
  | nil => simp
  | cons y r ih =>
    obtain ⟨j, n⟩ := y
    intro x hx
    rcases List.mem_cons.1 hx with rfl | hx
    · simp [cnt]
    · have := (List.pairwise_cons.1 h.up).1 x hx
      simp only [cnt]
      rw [if_neg (fun e => by simp only at this; omega)]
      exact ih h.tail x hx
theorem cnt_bd {L : Rows} (h : Rising L) (k : Int) : 0 ≤ cnt L k ∧ cnt L k ≤ 2147483647 := by
  by_cases e : cnt L k = 0
  · omega
  · have := h.ok _ (cnt_mem e); simp only at this; omega
theorem cnt_low {L : Rows} (h : Rising L) {k : Int} (hk : k < 1) : cnt L k = 0 := by
  by_cases e : cnt L k = 0
  · exact e
  · have := h.ok _ (cnt_mem e); simp only at this; omega
theorem cnt_append (a b : Rows) (k : Int) : cnt (a ++ b) k = if ∃ x ∈ a, x.1 = k then cnt a k else cnt b k := by
  induction a with
  | nil => simp
  | cons x r ih =>
    obtain ⟨j, n⟩ := x
    simp only [List.cons_append, cnt]
    by_cases e : j = k
    · rw [if_pos e, if_pos ⟨(j, n), by simp, e⟩, if_pos e]
    · rw [if_neg e, ih]
      by_cases h : ∃ x ∈ r, x.1 = k
      · rw [if_pos h, if_pos (by obtain ⟨x, hx, he⟩ := h; exact ⟨x, List.mem_cons_of_mem _ hx, he⟩), if_neg e]
      · rw [if_neg h, if_neg]
        rintro ⟨x, hx, he⟩
        rcases List.mem_cons.1 hx with rfl | hx
        · exact e he
        · exact h ⟨x, hx, he⟩

theorem ins_true (k n : Int) (L : Rows) : ins k n true L = L.filter (fun x => decide (x.1 ≠ k)) := by
  induction L with
  | nil => rfl
  | cons x r ih =>
    simp only [ins, Bool.not_true, Bool.false_and, Bool.false_eq_true, if_false, List.nil_append, Bool.true_or, ih, List.filter_cons]
    by_cases e : x.1 = k <;> simp [e]
theorem mem_ins {k n : Int} : ∀ {b : Bool} {L : Rows} {x : Int × Int}, x ∈ ins k n b L → (x = (k, n) ∧ b = false) ∨ (x ∈ L ∧ x.1 ≠ k)
  | b, [], x, h => by cases b <;> simp [ins] at h; exact .inl ⟨h, rfl⟩
  | b, y :: r, x, h => by
    simp only [ins, List.mem_append] at h
    rcases h with h | h | h
    · split at h
      · rename_i hb; simp at hb h; exact .inl ⟨h, hb.1⟩
      · simp at h
    · split at h
      · simp at h
      · rename_i e; simp at h; subst h; exact .inr ⟨by simp, e⟩
    · rcases mem_ins h with ⟨e, hb⟩ | ⟨e, hb⟩
      · simp at hb; exact .inl ⟨e, hb.1⟩
      · exact .inr ⟨List.mem_cons_of_mem _ e, hb⟩
theorem up_filter {L : Rows} (h : L.Pairwise (fun x y => x.1 < y.1)) (p : Int × Int → Bool) : (L.filter p).Pairwise (fun x y => x.1 < y.1) := List.Pairwise.filter _ h
theorem ins_up {k n : Int} : ∀ {b : Bool} {L : Rows}, L.Pairwise (fun x y => x.1 < y.1) → (ins k n b L).Pairwise (fun x y => x.1 < y.1)
  | b, [], _ => by cases b <;> simp [ins]
  | b, x :: r, h => by
    obtain ⟨h1, h2⟩ := List.pairwise_cons.1 h
    cases b with
    | true => rw [ins_true]; exact up_filter h _
    | false =>
      simp only [ins, Bool.not_false, Bool.true_and, Bool.false_or]
      by_cases e : x.1 > k
      · have e2 : x.1 ≠ k := by omega
        simp only [decide_eq_true e, if_true, if_neg e2]
        rw [ins_true]
        rw [List.singleton_append, List.singleton_append, List.pairwise_cons, List.pairwise_cons]
        refine ⟨fun y hy => ?_, fun y hy => h1 y (List.mem_filter.1 hy).1, up_filter h2 _⟩
        rcases List.mem_cons.1 hy with rfl | hy
        · exact e
        · have := h1 y (List.mem_filter.1 hy).1; simp only; omega
      · simp only [decide_eq_false e, Bool.false_eq_true, if_false, List.nil_append]
        by_cases e2 : x.1 = k
        · rw [if_pos e2, List.nil_append]; exact ins_up h2
        · rw [if_neg e2, List.singleton_append, List.pairwise_cons]
          refine ⟨fun y hy => ?_, ins_up h2⟩
          rcases mem_ins hy with ⟨rfl, _⟩ | ⟨hy, _⟩
          · simp only; omega
          · exact h1 y hy
theorem cnt_filter (L : Rows) (k q : Int) : cnt (L.filter (fun x => decide (x.1 ≠ k))) q = if q = k then 0 else cnt L q := by
  induction L with
  | nil => simp [cnt]
  | cons x r ih =>
    obtain ⟨j, n⟩ := x
    simp only [List.filter_cons]
    by_cases e : j = k
    · simp only [e, ne_eq, not_true_eq_false, decide_false, Bool.false_eq_true, if_false, ih, cnt]
      by_cases hq : q = k
      · simp [hq]
      · rw [if_neg hq, if_neg hq, if_neg (fun z => hq z.symm)]
    · simp only [ne_eq, e, not_false_eq_true, decide_true, if_true, cnt, ih]
      by_cases hj : j = q
      · subst hj; simp [e]
      · simp [hj]
theorem cnt_ins {k n : Int} : ∀ {L : Rows}, L.Pairwise (fun x y => x.1 < y.1) → ∀ q, cnt (ins k n false L) q = if q = k then n else cnt L q
  | [], _, q => by
    simp only [ins, Bool.false_eq_true, if_false, cnt]
    by_cases e : k = q
    · rw [if_pos e, if_pos e.symm]
    · rw [if_neg e, if_neg (fun z => e z.symm)]
  | (j, u) :: r, h, q => by
    obtain ⟨h1, h2⟩ := List.pairwise_cons.1 h
    simp only [ins, Bool.not_false, Bool.true_and, Bool.false_or]
    by_cases e : j > k
    · have e2 : j ≠ k := by omega
      simp only [decide_eq_true e, if_true, if_neg e2, ins_true, List.singleton_append, cnt, cnt_filter]
      by_cases hk : k = q
      · rw [if_pos hk, if_pos hk.symm]
      · rw [if_neg hk]
        simp only [if_neg (fun z : q = k => hk z.symm)]
    · simp only [decide_eq_false e, Bool.false_eq_true, if_false, List.nil_append]
      by_cases e2 : j = k
      · rw [if_pos e2, List.nil_append, cnt_ins h2]
        simp only [cnt]
        by_cases hq : q = k
        · rw [if_pos hq, if_pos hq]
        · rw [if_neg hq, if_neg hq, if_neg (fun z => hq (by omega))]
      · simp only [if_neg e2, List.singleton_append, cnt, cnt_ins h2]
        by_cases hj : j = q
        · rw [if_pos hj, if_pos hj, if_neg (by omega)]
        · rw [if_neg hj, if_neg hj]
theorem cnt_set {L : Rows} (h : Rising L) (k n q : Int) : cnt (rset L k n) q = if q = k then n else cnt L q := by
  unfold rset
  by_cases e : n = 0
  · rw [decide_eq_true e, ins_true, cnt_filter, e]
  · rw [decide_eq_false e, cnt_ins h.up]
theorem Rising.set {L : Rows} (h : Rising L) {k n : Int} (hk : 1 ≤ k ∨ n = 0) (hk2 : k ≤ 9223372036854775807) (hn : 0 ≤ n ∧ n ≤ 2147483647) : Rising (rset L k n) :=
  ⟨ins_up h.up, fun x hx => by
    rcases mem_ins hx with ⟨rfl, hb⟩ | ⟨hx, _⟩
    · have := of_decide_eq_false hb; simp only; omega
    · exact h.ok x hx⟩
theorem ins_length (k n : Int) : ∀ (b : Bool) (L : Rows), (ins k n b L).length ≤ L.length + 1
  | b, [] => by cases b <;> simp [ins]
  | true, x :: r => by rw [ins_true]; have := List.length_filter_le (fun x : Int × Int => decide (x.1 ≠ k)) (x :: r); omega
  | false, x :: r => by
    simp only [ins, Bool.not_false, Bool.true_and, Bool.false_or]
    by_cases e : x.1 > k
    · simp only [decide_eq_true e, if_true, ins_true]
      have := List.length_filter_le (fun x : Int × Int => decide (x.1 ≠ k)) r
      by_cases e3 : x.1 = k
      · simp only [if_true, if_pos e3, List.length_append, List.length_cons, List.length_nil]; omega
      · simp only [if_true, if_neg e3, List.length_append, List.length_cons, List.length_nil]; omega
    · simp only [decide_eq_false e]
      have := ins_length k n false r
      by_cases e3 : x.1 = k
      · simp only [Bool.false_eq_true, if_false, if_pos e3, List.length_append, List.length_cons, List.length_nil]; omega
      · simp only [Bool.false_eq_true, if_false, if_neg e3, List.length_append, List.length_cons, List.length_nil]; omega
theorem rset_length (L : Rows) (k n : Int) : (rset L k n).length ≤ L.length + 1 := ins_length _ _ _ _
/-- Two rising rows with the same counts are one. -/
theorem rows_eq : ∀ {L K : Rows}, Rising L → Rising K → (∀ q, cnt L q = cnt K q) → L = K
  | [], [], _, _, _ => rfl
  | [], (j, n) :: K, _, hk, h => by have := h j; have := (hk.ok (j, n) (by simp)); simp [cnt] at *; omega
  | (j, n) :: L, [], hl, _, h => by have := h j; have := (hl.ok (j, n) (by simp)); simp [cnt] at *; omega
  | (j, n) :: L, (i, m) :: K, hl, hk, h => by
    have hj := h j
    have hi := h i
    have oj := hl.ok (j, n) (by simp)
    have oi := hk.ok (i, m) (by simp)
    have low : ∀ {z : Int × Int} {M : Rows}, Rising (z :: M) → ∀ q, q ≤ z.1 → cnt M q = 0 := fun hz q hq => cnt_zero (fun x hx e => by have := (List.pairwise_cons.1 hz.up).1 x hx; omega)
    simp only [cnt, if_true] at hj hi oj oi
    have hij : i = j := by
      rcases Int.lt_trichotomy i j with e | e | e
      · rw [if_neg (by omega), low hl i (by simp only; omega)] at hi; omega
      · exact e
      · rw [if_neg (by omega), low hk j (by simp only; omega)] at hj; omega
    subst hij
    simp only [if_true] at hj
    subst hj
    congr 1
    refine rows_eq hl.tail hk.tail (fun q => ?_)
    have hq := h q
    simp only [cnt] at hq
    by_cases e : i = q
    · subst e; rw [low hl i (by simp only; omega), low hk i (by simp only; omega)]
    · rw [if_neg e, if_neg e] at hq; exact hq

/-! ### What the calls answer -/

/-- Add: which counts, which error. -/
def tAdd (L : Rows) (k n : Int) : Rows × Int :=
  if k < 1 then (L, 1) else if n < -cnt L k ∨ n > 2147483647 - cnt L k then (L, 8) else (rset L k (cnt L k + n), 0)
def tSwap (L : Rows) (o f : Int) : Rows × Int :=
  if o < 0 ∨ f < 0 then (L, 1)
  else if (o ≠ 0 ∧ cnt L o = 0) ∨ (f ≠ 0 ∧ f ≠ o ∧ cnt L f = 2147483647) then (L, 8)
  else ((fun M => if f ≠ 0 then rset M f (cnt M f + 1) else M) (if o ≠ 0 then rset L o (cnt L o - 1) else L), 0)
theorem Rising.add {L : Rows} (h : Rising L) {k n : Int} (hk : k ≤ 9223372036854775807) : Rising (tAdd L k n).1 := by
  have := cnt_bd h k
  unfold tAdd
  split
  · exact h
  · split
    · exact h
    · exact h.set (by omega) hk (by omega)
theorem Rising.swap {L : Rows} (h : Rising L) {o f : Int} (ho : o ≤ 9223372036854775807) (hf : f ≤ 9223372036854775807) : Rising (tSwap L o f).1 := by
  have b1 := cnt_bd h o
  have b2 := cnt_bd h f
  unfold tSwap
  split
  · exact h
  · rename_i h1
    split
    · exact h
    · rename_i h2
      have h2' : ¬ (o ≠ 0 ∧ cnt L o = 0) ∧ ¬ (f ≠ 0 ∧ f ≠ o ∧ cnt L f = 2147483647) := ⟨fun z => h2 (.inl z), fun z => h2 (.inr z)⟩
      obtain ⟨h3, h4⟩ := h2'
      by_cases e : o = 0
      · simp only [e, ne_eq, not_true_eq_false, if_false]
        by_cases e2 : f = 0
        · simpa [e2] using h
        · simp only [e2, not_false_eq_true, if_true]
          exact h.set (by omega) hf (by omega)
      · have hr : Rising (rset L o (cnt L o - 1)) := h.set (by omega) ho (by omega)
        simp only [ne_eq, e, not_false_eq_true, if_true]
        by_cases e2 : f = 0
        · simpa [e2] using hr
        · simp only [e2, not_false_eq_true, if_true]
          have hc := cnt_set h o (cnt L o - 1) f
          refine hr.set (by omega) hf ?_
          rw [hc]
          split
          · omega
          · omega
theorem tAdd_length (L : Rows) (k n : Int) : (tAdd L k n).1.length ≤ L.length + 1 := by
  unfold tAdd
  split
  · simp
  · split
    · simp
    · exact rset_length _ _ _
theorem tSwap_length (L : Rows) (o f : Int) : (tSwap L o f).1.length ≤ L.length + 2 := by
  unfold tSwap
  split
  · simp
  · split
    · simp
    · have h1 := rset_length L o (cnt L o - 1)
      have h2 := fun M => rset_length M f (cnt M f + 1)
      by_cases e : o = 0 <;> by_cases e2 : f = 0 <;> simp only [e, e2, ne_eq, not_true_eq_false, not_false_eq_true, if_false, if_true]
      · omega
      · have := h2 L; omega
      · omega
      · have := h2 (rset L o (cnt L o - 1)); omega
/-- The sum of the counts. -/
def total : Rows → Int
  | [] => 0
  | x :: r => x.2 + total r
theorem total_append (a b : Rows) : total (a ++ b) = total a + total b := by
  induction a with
  | nil => simp [total]
  | cons x r ih => simp only [List.cons_append, total, ih]; omega
theorem total_filter {L : Rows} (h : L.Pairwise (fun x y => x.1 < y.1)) (k : Int) : total (L.filter (fun x => decide (x.1 ≠ k))) = total L - cnt L k := by
  induction L with
  | nil => simp [total, cnt]
  | cons x r ih =>
    obtain ⟨j, n⟩ := x
    obtain ⟨h1, h2⟩ := List.pairwise_cons.1 h
    simp only [List.filter_cons, cnt, total]
    by_cases e : j = k
    · have h0 : cnt r k = 0 := cnt_zero (fun x hx e2 => by have := h1 x hx; simp only at this; omega)
      simp only [e, ne_eq, not_true_eq_false, decide_false, Bool.false_eq_true, if_false, ih h2, if_true, h0]; omega
    · simp only [ne_eq, e, not_false_eq_true, decide_true, if_true, if_false, total, ih h2]; omega
theorem total_ins {k n : Int} : ∀ {L : Rows}, L.Pairwise (fun x y => x.1 < y.1) → total (ins k n false L) = total L - cnt L k + n
  | [], _ => by simp [ins, total, cnt]
  | (j, u) :: r, h => by
    obtain ⟨h1, h2⟩ := List.pairwise_cons.1 h
    have h0 : j ≥ k → cnt r k = 0 := fun e => cnt_zero (fun x hx e2 => by have := h1 x hx; simp only at this; omega)
    simp only [ins, Bool.not_false, Bool.true_and, Bool.false_or]
    by_cases e : j > k
    · have e2 : j ≠ k := by omega
      simp only [decide_eq_true e, if_true, if_neg e2, ins_true, List.singleton_append, total, cnt, total_filter h2, h0 (by omega)]; omega
    · simp only [decide_eq_false e, Bool.false_eq_true, if_false, List.nil_append]
      by_cases e2 : j = k
      · rw [if_pos e2, List.nil_append, total_ins h2, h0 (by omega)]
        simp only [total, cnt, if_pos e2]; omega
      · rw [if_neg e2, List.singleton_append]
        simp only [total, cnt, if_neg e2, total_ins h2]; omega
theorem total_set {L : Rows} (h : Rising L) (k n : Int) : total (rset L k n) = total L - cnt L k + n := by
  unfold rset
  by_cases e : n = 0
  · rw [decide_eq_true e, ins_true, total_filter h.up, e]; omega
  · rw [decide_eq_false e, total_ins h.up]
end Go.Proofs.YtdmhenanikkabaaDoor

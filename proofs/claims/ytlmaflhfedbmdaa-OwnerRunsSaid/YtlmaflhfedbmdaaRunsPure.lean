/- The law OwnerRuns, plain: somebody's runs are rising and apart; all runs together are the owned pages. -/
import Derived.Test.YtlmaflhfedbmdaaOwnOf
set_option linter.unusedVariables false
set_option linter.unusedSimpArgs false
namespace Go.Proofs.Ytlmaflhfedbmdaa
open Go Go.RowKit

/-- What the law asks of runs, one behind the other. -/
def chk (f : Int → Int) (o : Int) (n : Int) : Int → List (Int × Int) → Prop
  | _, [] => True
  | last, (a, b) :: r => last < a ∧ 1 ≤ b ∧ a + b ≤ n ∧ (∀ i, a ≤ i → i < a + b → f i = o) ∧ chk f o n (a + b) r
def endOf : Int → List (Int × Int) → Int
  | last, [] => last
  | _, (a, b) :: r => endOf (a + b) r
def sumN : List (Int × Int) → Int
  | [] => 0
  | (_, b) :: r => b + sumN r
/-- How many of the first pages are o's. -/
def cntOf (f : Int → Int) (o : Int) : Nat → Nat
  | 0 => 0
  | k + 1 => cntOf f o k + (if f k = o then 1 else 0)

theorem chk_append (f : Int → Int) (o n a b : Int) : ∀ (l : List (Int × Int)) (last : Int), chk f o n last (l ++ [(a, b)]) ↔ chk f o n last l ∧ endOf last l < a ∧ 1 ≤ b ∧ a + b ≤ n ∧ (∀ i, a ≤ i → i < a + b → f i = o)
  | [], last => by simp [chk, endOf]
  | (x, y) :: r, last => by
    simp only [List.cons_append, chk, endOf, chk_append f o n a b r (x + y)]
    exact ⟨fun ⟨h1, h2, h3, h4, h5, h6⟩ => ⟨⟨h1, h2, h3, h4, h5⟩, h6⟩, fun ⟨⟨h1, h2, h3, h4, h5⟩, h6⟩ => ⟨h1, h2, h3, h4, h5, h6⟩⟩
theorem endOf_append (a b : Int) : ∀ (l : List (Int × Int)) (last : Int), endOf last (l ++ [(a, b)]) = a + b
  | [], last => rfl
  | (x, y) :: r, last => endOf_append a b r (x + y)
theorem sumN_append (a b : Int) : ∀ (l : List (Int × Int)), sumN (l ++ [(a, b)]) = sumN l + b
  | [] => by simp [sumN]
  | (x, y) :: r => by simp only [List.cons_append, sumN, sumN_append a b r]; omega
theorem snoc_or (l : List (Int × Int)) : l = [] ∨ ∃ r a b, l = r ++ [(a, b)] := by
  rcases List.eq_nil_or_concat l with h | ⟨r, x, h⟩
  · exact .inl h
  · exact .inr ⟨r, x.1, x.2, by rw [h, List.concat_eq_append]⟩

theorem runs_chk (f : Int → Int) (o : Int) (n : Nat) : ∀ k : Nat, k ≤ n → chk f o n (-1) (runsOf f o k) ∧ sumN (runsOf f o k) = cntOf f o k ∧
    (endOf (-1) (runsOf f o k) ≤ k ∧ (0 < k → f ((k : Int) - 1) = o → endOf (-1) (runsOf f o k) = k ∧ runsOf f o k ≠ []) ∧ ((0 < k ∧ f ((k : Int) - 1) = o) ∨ endOf (-1) (runsOf f o k) < k))
  | 0, _ => ⟨trivial, rfl, by simp [runsOf, endOf], fun h => absurd h (by omega), .inr (by simp [runsOf, endOf])⟩
  | k + 1, hk => by
    obtain ⟨h1, h2, h3, h4, h5⟩ := runs_chk f o n k (by omega)
    simp only [runsOf, cntOf]
    have e1 : (((k + 1 : Nat) : Int) - 1) = k := by omega
    rw [e1]
    by_cases hf : f k = o
    · rw [if_pos hf, if_pos hf]
      by_cases hp : 0 < k ∧ f ((k : Int) - 1) = o
      · rw [if_pos hp]
        obtain ⟨h6, h7⟩ := h4 hp.1 hp.2
        rcases snoc_or (runsOf f o k) with hn | ⟨r, a, b, hr⟩
        · exact absurd hn h7
        · rw [hr] at h1 h2 h6 ⊢
          rw [bumpLast_append]
          rw [endOf_append] at h6
          rw [chk_append] at h1 ⊢
          rw [sumN_append] at h2 ⊢
          rw [endOf_append]
          obtain ⟨q1, q2, q3, q4, q5⟩ := h1
          refine ⟨⟨q1, q2, by omega, by omega, fun i hi hj => ?_⟩, by omega, by omega, fun _ _ => ⟨by omega, by simp⟩, .inl ⟨by omega, hf⟩⟩
          by_cases he : i = k
          · rw [he]; exact hf
          · exact q5 i hi (by omega)
      · rw [if_neg hp]
        have h6 := h5.resolve_left hp
        rw [chk_append, sumN_append, endOf_append]
        refine ⟨⟨h1, h6, by omega, by omega, fun i hi hj => ?_⟩, by omega, by omega, fun _ _ => ⟨by omega, by simp⟩, .inl ⟨by omega, hf⟩⟩
        have : i = k := by omega
        rw [this]; exact hf
    · rw [if_neg hf, if_neg hf]
      exact ⟨h1, by omega, by omega, fun _ h => absurd h hf, .inr (by omega)⟩

/-- The sum over some owners. -/
def sumCnt (f : Int → Int) (n : Nat) : List Int → Nat
  | [] => 0
  | o :: r => (if o < 1 then 0 else cntOf f o n) + sumCnt f n r
theorem sumCnt_zero (f : Int → Int) : ∀ l, sumCnt f 0 l = 0
  | [] => rfl
  | o :: r => by simp only [sumCnt, cntOf, sumCnt_zero f r]; split <;> rfl
theorem sumCnt_out (f : Int → Int) (n : Nat) : ∀ l : List Int, f n ∉ l → sumCnt f (n + 1) l = sumCnt f n l
  | [], _ => rfl
  | o :: r, h => by
    have h1 : f n ≠ o := fun e => h (by simp [e])
    have h2 := sumCnt_out f n r (fun e => h (by simp [e]))
    simp only [sumCnt, cntOf, if_neg h1, h2]
    split <;> omega
theorem sumCnt_in (f : Int → Int) (n : Nat) : ∀ l : List Int, l.Nodup → f n ∈ l → sumCnt f (n + 1) l = sumCnt f n l + (if 0 < f n then 1 else 0)
  | o :: r, hn, h => by
    have hn' := List.nodup_cons.1 hn
    by_cases h1 : f n = o
    · have h2 := sumCnt_out f n r (by rw [h1]; exact hn'.1)
      have e : (if 0 < f n then 1 else 0) = (if 0 < o then (1 : Nat) else 0) := by rw [h1]
      simp only [sumCnt, cntOf, if_pos h1, h2, e]
      by_cases ho : o < 1
      · rw [if_pos ho, if_pos ho, if_neg (by omega)]; rfl
      · rw [if_neg ho, if_neg ho, if_pos (by omega)]; omega
    · have hm : f n ∈ r := by rcases List.mem_cons.1 h with q | q; · exact absurd q h1
                              · exact q
      have h2 := sumCnt_in f n r hn'.2 hm
      simp only [sumCnt, cntOf, if_neg h1, h2]
      split <;> omega
theorem sumCnt_le (f : Int → Int) : ∀ (n : Nat) (l : List Int), l.Nodup → sumCnt f n l ≤ n
  | 0, l, _ => by rw [sumCnt_zero]; exact Nat.le_refl _
  | n + 1, l, hn => by
    have ih := sumCnt_le f n l hn
    by_cases h : f n ∈ l
    · rw [sumCnt_in f n l hn h]; split <;> omega
    · rw [sumCnt_out f n l h]; omega
/-- All owners are met: the sums are all that is owned. -/
theorem sumCnt_owned (f : Int → Int) (l : List Int) (hl : l.Nodup) : ∀ n : Nat, (∀ i : Nat, i < n → 0 < f i → f i ∈ l) → sumCnt f n l = ownedOf f n
  | 0, _ => sumCnt_zero f l
  | n + 1, h => by
    have ih := sumCnt_owned f l hl n (fun i hi => h i (by omega))
    simp only [ownedOf]
    by_cases hf : f n ∈ l
    · rw [sumCnt_in f n l hl hf, ih]
    · rw [sumCnt_out f n l hf, ih, if_neg (fun q => hf (h n (by omega) q))]; omega

theorem chk_drop (f : Int → Int) (o n : Int) : ∀ (l : List (Int × Int)) (last : Int) (j : Nat) (hj : j < l.length), chk f o n last (l.drop j) → last < l[j].1 ∧ 1 ≤ l[j].2 ∧ l[j].1 + l[j].2 ≤ n ∧ (∀ i, l[j].1 ≤ i → i < l[j].1 + l[j].2 → f i = o) ∧ chk f o n (l[j].1 + l[j].2) (l.drop (j + 1)) := by
  intro l last j hj h
  rw [List.drop_eq_getElem_cons hj] at h
  exact h
theorem sumN_take (l : List (Int × Int)) : ∀ (j : Nat) (hj : j < l.length), sumN (l.take (j + 1)) = sumN (l.take j) + l[j].2 := by
  intro j hj
  rw [List.take_succ_eq_append_getElem hj]
  exact sumN_append l[j].1 l[j].2 _
theorem sumN_nonneg (f : Int → Int) (o n : Int) : ∀ (l : List (Int × Int)) (last : Int), chk f o n last l → ∀ j, 0 ≤ sumN (l.take j) ∧ sumN (l.take j) ≤ sumN l
  | [], _, _, j => by simp [sumN]
  | (a, b) :: r, last, h, 0 => by
    have := sumN_nonneg f o n r (a + b) h.2.2.2.2 r.length
    have h2 : 1 ≤ b := h.2.1
    simp [sumN] at this ⊢
    omega
  | (a, b) :: r, last, h, j + 1 => by
    have := sumN_nonneg f o n r (a + b) h.2.2.2.2 j
    have h2 : 1 ≤ b := h.2.1
    simp [sumN] at this ⊢
    omega
end Go.Proofs.Ytlmaflhfedbmdaa

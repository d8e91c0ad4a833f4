/- Layer 5 (tree): the law TreeIntervals: the walk. -/
import Derived.Test.YtinjbonodlkafaaLaw05
set_option linter.unusedVariables false
set_option linter.unusedSimpArgs false
namespace Go.Proofs.Ytinjbonodlkafaa
open Go Go.RowKit

/-! ### Plain -/
/-- Two intervals: within, apart, or the other way round. -/
theorem iv_cases {L : TRows} {n : Nat} (ok : TreeOk L n) {a b : Int} (ha : a ∈ sub L 0) (hb : b ∈ sub L 0) :
    (inB L a b = true ∧ at_ L b ≤ at_ L a ∧ at_ L a + (1 + (sub L a).length) ≤ at_ L b + (1 + (sub L b).length)) ∨
    (inB L a b = false ∧ inB L b a = true ∧ (pget L a).getD 0 ≠ b ∧ at_ L a < at_ L b ∧ at_ L b < at_ L a + (1 + (sub L a).length)) ∨
    (inB L a b = false ∧ (pget L a).getD 0 ≠ b ∧ (at_ L b + (1 + (sub L b).length) ≤ at_ L a ∨ at_ L a + (1 + (sub L a).length) ≤ at_ L b)) := by
  obtain ⟨p, hp⟩ := (mem_walk ok).1 ha
  obtain ⟨q, hq⟩ := (mem_walk ok).1 hb
  have h1 : hasB L a = true := (hasB_true ok.up).2 ⟨p, hp⟩
  have h2 : hasB L b = true := (hasB_true ok.up).2 ⟨q, hq⟩
  have w1 := within_iff ok ha hb
  have w2 := within_iff ok hb ha
  have e1 : inB L a b = true ↔ (a = b ∨ a ∈ sub L b) := by unfold inB; rw [h1, h2]; simp
  have e2 : inB L b a = true ↔ (b = a ∨ b ∈ sub L a) := by unfold inB; rw [h1, h2]; simp
  by_cases hab : a = b ∨ a ∈ sub L b
  · exact .inl ⟨e1.2 hab, within_in ok hb hab⟩
  · have f1 : inB L a b = false := by
      cases e : inB L a b with
      | false => rfl
      | true => exact absurd (e1.1 e) hab
    have hpg : pget L a = some p := (pget_some ok.up).2 hp
    have hpb : (pget L a).getD 0 ≠ b := by
      rw [hpg]
      rintro rfl
      exact hab (.inr ((sub_step ok hp).2 (.inl rfl)))
    have nab : ¬ (at_ L b ≤ at_ L a ∧ at_ L a < at_ L b + (1 + (sub L b).length)) := fun z => hab (w1.1 z)
    by_cases hba : at_ L a ≤ at_ L b ∧ at_ L b < at_ L a + (1 + (sub L a).length)
    · exact .inr (.inl ⟨f1, e2.2 (w2.1 hba), hpb, by omega, by omega⟩)
    · exact .inr (.inr ⟨f1, hpb, by omega⟩)
theorem iv_of {L : TRows} {n : Nat} (ok : TreeOk L n) {a : Int} (ha : a ∈ sub L 0) : hasB L a = true ∧ ivl L a = (((at_ L a : Nat) : Int), (((1 + (sub L a).length : Nat)) : Int)) := by
  have h1 : hasB L a = true := (hasB_true ok.up).2 ((mem_walk ok).1 ha)
  exact ⟨h1, by unfold ivl; rw [if_pos h1]⟩
theorem nodup_count {x : Int} : ∀ {l : List Int}, l.Nodup → x ∈ l → l.count x = 1
  | [], _, h => by cases h
  | y :: r, hn, h => by
    obtain ⟨h1, h2⟩ := List.nodup_cons.1 hn
    rw [List.count_cons]
    rcases List.mem_cons.1 h with e | e
    · subst e
      rw [List.count_eq_zero_of_not_mem h1]
      simp
    · have hne : y ≠ x := fun z => h1 (z ▸ e)
      rw [nodup_count h2 e]
      simp [hne]
theorem met_of {L : TRows} {n : Nat} (ok : TreeOk L n) (x : Int) : (sub L 0).count x = if hasB L x = true then 1 else 0 := by
  by_cases h : hasB L x = true
  · rw [if_pos h]
    exact nodup_count (sub_nodup ok 0) ((mem_walk ok).2 ((hasB_true ok.up).1 h))
  · rw [if_neg h]
    exact List.count_eq_zero_of_not_mem (fun z => h ((hasB_true ok.up).2 ((mem_walk ok).1 z)))
theorem count_take {xs : List Int} {j : Nat} (h : j < xs.length) (x : Int) : (xs.take (j + 1)).count x = (xs.take j).count x + (if xs[j] = x then 1 else 0) := by
  rw [List.take_succ_eq_append_getElem h, List.count_append]
  congr 1
  by_cases e : xs[j] = x <;> simp [e]
end Go.Proofs.Ytinjbonodlkafaa

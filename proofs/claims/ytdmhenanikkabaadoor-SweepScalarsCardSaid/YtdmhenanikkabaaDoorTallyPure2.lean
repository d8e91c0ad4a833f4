/- A swap, and the swap back; sums. Plain Lean. -/
import Derived.Test.YtdmhenanikkabaaDoorTallyPure
set_option linter.unusedVariables false
set_option linter.unusedSimpArgs false
namespace Go.Proofs.YtdmhenanikkabaaDoor
open Go

def dec (L : Rows) (o : Int) : Rows := if o ≠ 0 then rset L o (cnt L o - 1) else L
def inc (L : Rows) (f : Int) : Rows := if f ≠ 0 then rset L f (cnt L f + 1) else L
theorem tSwap_eq {L : Rows} {o f : Int} (h : ¬ (o < 0 ∨ f < 0)) (h2 : ¬ ((o ≠ 0 ∧ cnt L o = 0) ∨ (f ≠ 0 ∧ f ≠ o ∧ cnt L f = 2147483647))) : tSwap L o f = (inc (dec L o) f, 0) := by
  unfold tSwap; rw [if_neg h, if_neg h2]; rfl
theorem tSwap_ok {L : Rows} {o f : Int} (h : (tSwap L o f).2 = 0) : ¬ (o < 0 ∨ f < 0) ∧ ¬ ((o ≠ 0 ∧ cnt L o = 0) ∨ (f ≠ 0 ∧ f ≠ o ∧ cnt L f = 2147483647)) := by
  unfold tSwap at h
  split at h
  · simp at h
  · rename_i h1
    split at h
    · simp at h
    · rename_i h2; exact ⟨h1, h2⟩
theorem tSwap_bad {L : Rows} {o f : Int} (h : (tSwap L o f).2 ≠ 0) : (tSwap L o f).1 = L := by
  unfold tSwap at h ⊢
  split
  · rfl
  · rename_i h1
    split
    · rfl
    · rename_i h2; rw [if_neg h1, if_neg h2] at h; exact absurd rfl h
theorem cnt_dec {L : Rows} (h : Rising L) (o q : Int) : cnt (dec L o) q = if o ≠ 0 ∧ q = o then cnt L o - 1 else cnt L q := by
  unfold dec
  by_cases e : o = 0
  · simp [e]
  · rw [if_pos e, cnt_set h]
    by_cases e2 : q = o <;> simp [e, e2]
theorem cnt_inc {L : Rows} (h : Rising L) (o q : Int) : cnt (inc L o) q = if o ≠ 0 ∧ q = o then cnt L o + 1 else cnt L q := by
  unfold inc
  by_cases e : o = 0
  · simp [e]
  · rw [if_pos e, cnt_set h]
    by_cases e2 : q = o <;> simp [e, e2]
theorem dec_rise {L : Rows} (h : Rising L) {o : Int} (ho : 0 ≤ o ∧ o ≤ 9223372036854775807) (hc : o ≠ 0 → cnt L o ≠ 0) : Rising (dec L o) := by
  have := cnt_bd h o
  unfold dec
  split
  · rename_i e; have := hc e; exact h.set (by omega) ho.2 (by omega)
  · exact h
theorem inc_rise {L : Rows} (h : Rising L) {o : Int} (ho : 0 ≤ o ∧ o ≤ 9223372036854775807) (hc : o ≠ 0 → cnt L o ≠ 2147483647) : Rising (inc L o) := by
  have := cnt_bd h o
  unfold inc
  split
  · rename_i e; have := hc e; exact h.set (by omega) ho.2 (by omega)
  · exact h
theorem swap_back {L : Rows} (h : Rising L) {a b : Int} (ha : a ≤ 9223372036854775807) (hb : b ≤ 9223372036854775807) (hs : (tSwap L a b).2 = 0) : tSwap (tSwap L a b).1 b a = (L, 0) := by
  obtain ⟨h1, h2⟩ := tSwap_ok hs
  have ma := cnt_bd h a
  have mb := cnt_bd h b
  rw [tSwap_eq h1 h2]
  have d1 : Rising (dec L a) := dec_rise h (by omega) (fun e e2 => h2 (.inl ⟨e, e2⟩))
  have c1 := cnt_dec h a
  have d2 : Rising (inc (dec L a) b) := inc_rise d1 (by omega) (fun e e2 => by
    rw [c1] at e2
    split at e2
    · omega
    · rename_i h3
      exact h2 (.inr ⟨e, fun z => h3 ⟨by omega, z⟩, e2⟩))
  have c2 := cnt_inc d1 b
  dsimp only
  have hok : ¬ ((b ≠ 0 ∧ cnt (inc (dec L a) b) b = 0) ∨ (a ≠ 0 ∧ a ≠ b ∧ cnt (inc (dec L a) b) a = 2147483647)) := by
    rintro (⟨e1, e2⟩ | ⟨e1, e2, e3⟩)
    · rw [c2, if_pos ⟨e1, rfl⟩] at e2
      have := cnt_bd d1 b
      omega
    · rw [c2, if_neg (fun z => e2 z.2), c1, if_pos ⟨e1, rfl⟩] at e3
      omega
  rw [tSwap_eq (by omega) hok]
  have d3 : Rising (dec (inc (dec L a) b) b) := dec_rise d2 (by omega) (fun e e2 => hok (.inl ⟨e, e2⟩))
  have c3 := cnt_dec d2 b
  have hL : dec (inc (dec L a) b) b = dec L a := rows_eq d3 d1 (fun q => by
    rw [c3, c2, c2]
    by_cases e : b ≠ 0 ∧ q = b
    · rw [if_pos e, if_pos ⟨e.1, rfl⟩, e.2]; omega
    · rw [if_neg e, if_neg e])
  rw [hL]
  have d4 : Rising (inc (dec L a) a) := inc_rise d1 (by omega) (fun e e2 => by rw [c1, if_pos ⟨e, rfl⟩] at e2; omega)
  have c4 := cnt_inc d1 a
  have hL2 : inc (dec L a) a = L := rows_eq d4 h (fun q => by
    rw [c4, c1, c1]
    by_cases e : a ≠ 0 ∧ q = a
    · rw [if_pos e, if_pos ⟨e.1, rfl⟩, e.2]; omega
    · rw [if_neg e, if_neg e])
  rw [hL2]
/-- What an act does to the sum. -/
theorem total_add {L : Rows} (h : Rising L) {k n : Int} (hs : (tAdd L k n).2 = 0) : total (tAdd L k n).1 = total L + n := by
  unfold tAdd at hs ⊢
  split at hs
  · simp at hs
  · rename_i h1
    split at hs
    · simp at hs
    · rename_i h2
      rw [if_neg h1, if_neg h2]
      dsimp only
      rw [total_set h]; omega
theorem total_swap {L : Rows} (h : Rising L) {a b : Int} (ha : a ≤ 9223372036854775807) (hb : b ≤ 9223372036854775807) (hs : (tSwap L a b).2 = 0) (h0 : a ≠ 0) (h1 : b ≠ 0) : total (tSwap L a b).1 = total L := by
  obtain ⟨h1', h2⟩ := tSwap_ok hs
  have d1 : Rising (dec L a) := dec_rise h (by omega) (fun e e2 => h2 (.inl ⟨e, e2⟩))
  rw [tSwap_eq h1' h2]
  dsimp only
  have e1 : total (dec L a) = total L - 1 := by unfold dec; rw [if_pos h0, total_set h]; omega
  unfold inc
  rw [if_pos h1, total_set d1, e1]; omega
theorem total_bd : ∀ {L : Rows}, Rising L → 0 ≤ total L ∧ total L ≤ 2147483647 * L.length
  | [], _ => by simp [total]
  | x :: r, h => by
    have h1 := total_bd h.tail
    have h2 := h.ok x (by simp)
    simp only [total, List.length_cons]
    omega
end Go.Proofs.YtdmhenanikkabaaDoor

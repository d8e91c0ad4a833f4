/- Layer 11 (arena): placing many things, one behind the other: what is answered depends on what is free alone. -/
import Derived.Test.YtpldogmamifdpaaDoorArena4
set_option linter.unusedVariables false
set_option linter.unusedSimpArgs false
namespace Go.Proofs.YtpldogmamifdpaaDoor
open Go Go.RowKit

theorem bool_ext11 {x y : List Bool} (hl : x.length = y.length) (h : ∀ j, x.getD j false = y.getD j false) : x = y := by
  apply List.ext_getElem hl
  intro i h1 h2
  have := h i
  simp only [List.getD_eq_getElem?_getD, List.getElem?_eq_getElem h1, List.getElem?_eq_getElem h2, Option.getD_some] at this
  exact this

/-- What is free; the plan's page and its used words; runs; things. -/
structure S11 where
  x : List Bool
  pg : Int
  us : Int
  R : List (Int × Int)
  T : List (Int × Int)
def AllocX (s : S11) (size a E : Int) (s' : S11) : Prop := ∃ W W', AllocTo s.x W s.pg s.us s.R s.T size a E s'.x W' s'.pg s'.us s'.R s'.T
theorem AllocX.uniq {s : S11} {size a E a2 E2 : Int} {s' s2 : S11} (h : AllocX s size a E s') (h' : AllocX s size a2 E2 s2) : a2 = a ∧ E2 = E ∧ s2 = s' := by
  obtain ⟨x', pg', us', R', T'⟩ := s'
  obtain ⟨x2, pg2, us2, R2, T2⟩ := s2
  obtain ⟨W, W', h⟩ := h
  obtain ⟨V, V', h'⟩ := h'
  dsimp only at h h'
  rcases h with ⟨h1, rfl, rfl, rfl, _, rfl, rfl, rfl, rfl⟩ | ⟨h1, h2, rfl, rfl, rfl, _, rfl, rfl, rfl, rfl⟩ | ⟨h1, h2, h3, rfl, rfl, rfl, _, rfl, rfl, rfl, rfl⟩ | ⟨h1, h2, j, h3, rfl, rfl, rfl, _, rfl, rfl, rfl, rfl⟩ <;>
    rcases h' with ⟨g1, rfl, rfl, rfl, _, rfl, rfl, rfl, rfl⟩ | ⟨g1, g2, rfl, rfl, rfl, _, rfl, rfl, rfl, rfl⟩ | ⟨g1, g2, g3, rfl, rfl, rfl, _, rfl, rfl, rfl, rfl⟩ | ⟨g1, g2, j', g3, rfl, rfl, rfl, _, rfl, rfl, rfl, rfl⟩
  · exact ⟨rfl, rfl, rfl⟩
  · omega
  · omega
  · omega
  · omega
  · exact ⟨rfl, rfl, rfl⟩
  · omega
  · omega
  · omega
  · omega
  · exact ⟨rfl, rfl, rfl⟩
  · exact absurd (h3.uniq g3) (by simp)
  · omega
  · omega
  · exact absurd (h3.uniq g3) (by simp)
  · obtain rfl := Option.some.inj (h3.uniq g3)
    exact ⟨rfl, rfl, rfl⟩

/-- Behind so many of the sizes. -/
def Reach (l : List Int) (s0 : S11) : Nat → List (Int × Int) → S11 → Prop
  | 0, out, s => out = [] ∧ s = s0
  | k + 1, out, s => ∃ out1 s1 a E, Reach l s0 k out1 s1 ∧ AllocX s1 (l.getD k 0) a E s ∧ out = out1 ++ [(a, E)]
theorem Reach.uniq {l : List Int} {s0 : S11} : ∀ {k : Nat} {out out' : List (Int × Int)} {s s' : S11}, Reach l s0 k out s → Reach l s0 k out' s' → out' = out ∧ s' = s
  | 0, _, _, _, _, h, h' => ⟨h'.1.trans h.1.symm, h'.2.trans h.2.symm⟩
  | k + 1, _, _, _, _, ⟨o1, s1, a, E, h1, h2, h3⟩, ⟨o2, s2, a', E', g1, g2, g3⟩ => by
    obtain ⟨rfl, rfl⟩ := Reach.uniq h1 g1
    obtain ⟨rfl, rfl, rfl⟩ := h2.uniq g2
    exact ⟨g3.trans h3.symm, rfl⟩
theorem AllocX.bd {s : S11} {size a E : Int} {s' : S11} (h : AllocX s size a E s') : s'.R.length ≤ s.R.length + 1 ∧ s'.T.length ≤ s.T.length + 1 ∧ s'.x.length = s.x.length ∧ 0 ≤ E ∧ E ≤ 3 := by
  obtain ⟨W, W', h⟩ := h
  rcases h with ⟨h1, _, h2, h3, _, _, _, h4, h5⟩ | ⟨_, _, _, h2, h3, _, _, _, h4, h5⟩ | ⟨_, _, _, _, h2, h3, _, _, _, h4, h5⟩ | ⟨_, _, j, _, _, h2, h3, _, _, _, h4, h5⟩ <;> rw [h3, h4, h5, h2]
  · exact ⟨by omega, by omega, rfl, by omega, by omega⟩
  · exact ⟨by omega, by simp, rfl, by omega, by omega⟩
  · exact ⟨by omega, by omega, rfl, by omega, by omega⟩
  · exact ⟨by simp, by simp, by rw [markB_length], by omega, by omega⟩
theorem Reach.bd {l : List Int} {s0 : S11} : ∀ {k : Nat} {out : List (Int × Int)} {s : S11}, Reach l s0 k out s → out.length = k ∧ s.R.length ≤ s0.R.length + k ∧ s.T.length ≤ s0.T.length + k ∧ s.x.length = s0.x.length
  | 0, _, _, h => by obtain ⟨rfl, rfl⟩ := h; exact ⟨rfl, by omega, by omega, rfl⟩
  | k + 1, _, _, ⟨o1, s1, a, E, h1, h2, h3⟩ => by
    have ih := Reach.bd h1
    have hb := h2.bd
    rw [h3]
    exact ⟨by rw [List.length_append, ih.1]; rfl, by omega, by omega, by omega⟩

/-- The runs are granted, apart, and nothing else is. -/
def Alone (x : List Bool) (R : List (Int × Int)) : Prop := Holds x R ∧ ∀ i : Nat, x.getD i false = true → ∃ r ∈ R, r.1 ≤ i ∧ (i : Int) < r.1 + r.2
theorem Alone.grant {x : List Bool} {R : List (Int × Int)} (h : Alone x R) {j N : Nat} (hf : FreeAt x j N) (h1 : 1 ≤ N) : Alone (markB x j true N) (R ++ [((j : Int), (N : Int))]) := by
  obtain ⟨⟨a, b⟩, c⟩ := h
  have hfl := hf.1
  have hfr : ∀ i : Nat, j ≤ i → i < j + N → x.getD i false = false := fun i h2 h3 => by
    have := hf.2 (i - j) (by omega)
    rwa [show j + (i - j) = i by omega] at this
  have hap : ∀ r ∈ R, r.1 + r.2 ≤ (j : Int) ∨ (j : Int) + N ≤ r.1 := by
    intro r hr
    obtain ⟨a0, a1, a2, a3⟩ := a r hr
    by_cases hq : r.1 + r.2 ≤ (j : Int)
    · exact .inl hq
    · by_cases hq2 : (j : Int) + N ≤ r.1
      · exact .inr hq2
      · exfalso
        by_cases h3 : r.1 ≤ (j : Int)
        · have e1 := a3 j h3 (by omega)
          rw [hfr j (by omega) (by omega)] at e1
          cases e1
        · have e1 := a3 r.1.toNat (by omega) (by omega)
          rw [hfr r.1.toNat (by omega) (by omega)] at e1
          cases e1
  refine ⟨⟨fun r hr => ?_, ?_⟩, fun i hi => ?_⟩
  · rcases List.mem_append.1 hr with hr | hr
    · obtain ⟨a0, a1, a2, a3⟩ := a r hr
      refine ⟨a0, a1, by rw [markB_length]; exact a2, fun i h2 h3 => ?_⟩
      rw [markB_get _ _ _ _ _ hfl]
      split
      · rfl
      · exact a3 i h2 h3
    · rw [List.mem_singleton] at hr
      subst hr
      refine ⟨by simp, by simp; omega, by rw [markB_length]; simp; omega, fun i h2 h3 => ?_⟩
      simp at h2 h3
      rw [markB_get _ _ _ _ _ hfl, if_pos (by omega)]
  · rw [List.pairwise_append]
    refine ⟨b, by simp, fun r hr q hq => ?_⟩
    rw [List.mem_singleton] at hq
    subst hq
    rcases hap r hr with h2 | h2
    · exact .inl h2
    · exact .inr h2
  · rw [markB_get _ _ _ _ _ hfl] at hi
    by_cases h2 : j ≤ i ∧ i < j + N
    · exact ⟨((j : Int), (N : Int)), List.mem_append_right _ (List.mem_singleton.2 rfl), by simp; omega, by simp; omega⟩
    · rw [if_neg h2] at hi
      obtain ⟨r, hr, hq⟩ := c i hi
      exact ⟨r, List.mem_append_left _ hr, hq⟩
theorem AllocX.alone {s : S11} {size a E : Int} {s' : S11} (h : AllocX s size a E s') (ha : Alone s.x s.R) : Alone s'.x s'.R := by
  obtain ⟨W, W', h⟩ := h
  rcases h with ⟨h1, _, h2, h3, _, _, _, h4, h5⟩ | ⟨_, _, _, h2, h3, _, _, _, h4, h5⟩ | ⟨_, _, _, _, h2, h3, _, _, _, h4, h5⟩ | ⟨_, hN, j, hf, _, h2, h3, _, _, _, h4, h5⟩ <;> rw [h3, h4]
  · exact ha
  · exact ha
  · exact ha
  · have := ha.grant hf.1 (by omega)
    rwa [show (((needN s.us size).toNat : Nat) : Int) = needN s.us size by omega] at this
theorem Reach.alone {l : List Int} {s0 : S11} (h0 : Alone s0.x s0.R) : ∀ {k : Nat} {out : List (Int × Int)} {s : S11}, Reach l s0 k out s → Alone s.x s.R
  | 0, _, _, h => by obtain ⟨_, rfl⟩ := h; exact h0
  | k + 1, _, _, ⟨o1, s1, a, E, h1, h2, h3⟩ => h2.alone (Reach.alone h0 h1)
theorem givenBack_alone : ∀ (R : List (Int × Int)) (x : List Bool), Alone x R → givenBack x R = List.replicate x.length false
  | [], x, h => by
    refine bool_ext11 (by simp [givenBack]) fun i => ?_
    show x.getD i false = _
    rw [show (List.replicate x.length false).getD i false = false by simp [List.getD_eq_getElem?_getD, List.getElem?_replicate]; split <;> rfl]
    cases hx : x.getD i false with
    | false => rfl
    | true =>
      obtain ⟨r, hr, _⟩ := h.2 i hx
      cases hr
  | r :: R, x, h => by
    have hst := h.1.step
    have := givenBack_alone R (markB x r.1.toNat false r.2.toNat) ⟨hst.2, fun i hi => by
      obtain ⟨a0, a1, a2, a3⟩ := h.1.1 r (List.mem_cons_self ..)
      rw [markB_get _ _ _ _ _ (by omega)] at hi
      by_cases hq : r.1.toNat ≤ i ∧ i < r.1.toNat + r.2.toNat
      · rw [if_pos hq] at hi; cases hi
      · rw [if_neg hq] at hi
        obtain ⟨q, hm, h2, h3⟩ := h.2 i hi
        rcases List.mem_cons.1 hm with rfl | hm
        · exfalso; omega
        · exact ⟨q, hm, h2, h3⟩⟩
    rw [givenBack, this, markB_length]
theorem alone0 (n : Nat) : Alone (List.replicate n false) [] := by
  refine ⟨⟨(fun r hr => by cases hr), List.Pairwise.nil⟩, fun i hi => ?_⟩
  simp [List.getD_eq_getElem?_getD, List.getElem?_replicate] at hi
  split at hi <;> simp at hi
end Go.Proofs.YtpldogmamifdpaaDoor

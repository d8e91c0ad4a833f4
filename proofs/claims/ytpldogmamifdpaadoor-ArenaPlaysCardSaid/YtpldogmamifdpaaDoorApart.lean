/- Layer 11's laws ArenaApart, ArenaPlays: what stands between two acts, of four arenas of the same pages. No program text. -/
import Derived.Test.YtpldogmamifdpaaDoorFour
set_option linter.unusedVariables false
set_option linter.unusedSimpArgs false
namespace Go.Proofs.YtpldogmamifdpaaDoor
open Go Go.RowKit

theorem popB_allF (f : Nat → Bool) : ∀ m, (∀ i, i < m → f i = true) → popB f m = m
  | 0, _ => rfl
  | m + 1, h => by simp only [popB]; rw [popB_allF f m (fun i hi => h i (by omega)), h m (by omega)]; rfl
theorem popB_zeroF (f : Nat → Bool) : ∀ m, (∀ i, i < m → f i = false) → popB f m = 0
  | 0, _ => rfl
  | m + 1, h => by simp only [popB]; rw [popB_zeroF f m (fun i hi => h i (by omega)), h m (by omega)]; rfl
theorem cnt_markF (x : List Bool) (A B n : Nat) (h : FreeAt x A B) (hn : n = x.length) : cntTo (markB x A true B) n = cntTo x n + B := by
  have hg := fun j => markB_get x A true B j h.1
  obtain ⟨C, rfl⟩ : ∃ C, n = A + B + C := ⟨n - (A + B), by have := h.1; omega⟩
  unfold cntTo
  rw [popB_add, popB_add, popB_add _ (A + B), popB_add _ A]
  have e1 : popB (fun i => (markB x A true B).getD i false) A = popB (fun i => x.getD i false) A := popB_congr (fun i hi => by rw [hg, if_neg (by omega)])
  have e2 : popB (fun i => (markB x A true B).getD (A + i) false) B = B := popB_allF _ _ (fun i hi => by rw [hg, if_pos (by omega)])
  have e3 : popB (fun i => x.getD (A + i) false) B = 0 := popB_zeroF _ _ (fun i hi => h.2 i hi)
  have e4 : popB (fun i => (markB x A true B).getD (A + B + i) false) C = popB (fun i => x.getD (A + B + i) false) C := popB_congr (fun i hi => by rw [hg, if_neg (by omega)])
  rw [e1, e2, e3, e4]
  omega
theorem cnt_unmark (x : List Bool) (A B n : Nat) (h : A + B ≤ x.length) (hw : ∀ i, A ≤ i → i < A + B → x.getD i false = true) (hn : n = x.length) : cntTo (markB x A false B) n + B = cntTo x n := by
  have hg := fun j => markB_get x A false B j h
  obtain ⟨C, rfl⟩ : ∃ C, n = A + B + C := ⟨n - (A + B), by omega⟩
  unfold cntTo
  rw [popB_add, popB_add, popB_add _ (A + B), popB_add _ A]
  have e1 : popB (fun i => (markB x A false B).getD i false) A = popB (fun i => x.getD i false) A := popB_congr (fun i hi => by rw [hg, if_neg (by omega)])
  have e2 : popB (fun i => (markB x A false B).getD (A + i) false) B = 0 := popB_zeroF _ _ (fun i hi => by rw [hg, if_pos (by omega)])
  have e3 : popB (fun i => x.getD (A + i) false) B = B := popB_allF _ _ (fun i hi => hw _ (by omega) (by omega))
  have e4 : popB (fun i => (markB x A false B).getD (A + B + i) false) C = popB (fun i => x.getD (A + B + i) false) C := popB_congr (fun i hi => by rw [hg, if_neg (by omega)])
  rw [e1, e2, e3, e4]
  omega

/-- Two runs don't meet. -/
def Off (r q : Int × Int) : Prop := r.1 + r.2 ≤ q.1 ∨ q.1 + q.2 ≤ r.1
theorem Off.symm {r q : Int × Int} (h : Off r q) : Off q r := Or.symm h
/-- A granted run doesn't meet a free one. -/
theorem Holds.off {x : List Bool} {R : List (Int × Int)} (h : Holds x R) {j N : Nat} (hf : FreeAt x j N) (h1 : 1 ≤ N) : ∀ r ∈ R, Off r ((j : Int), (N : Int)) := by
  intro r hr
  obtain ⟨a0, a1, a2, a3⟩ := h.1 r hr
  have hfr : ∀ i : Nat, j ≤ i → i < j + N → x.getD i false = false := fun i h2 h3 => by
    have := hf.2 (i - j) (by omega)
    rwa [show j + (i - j) = i by omega] at this
  show r.1 + r.2 ≤ (j : Int) ∨ (j : Int) + (N : Int) ≤ r.1
  by_cases hq : r.1 + r.2 ≤ (j : Int)
  · exact .inl hq
  · by_cases hq2 : (j : Int) + N ≤ r.1
    · exact .inr hq2
    · exfalso
      by_cases h3 : r.1 ≤ (j : Int)
      · have e1 := a3 j h3 (by omega)
        rw [hfr j (by omega) (by omega)] at e1
        cases e1
      · have e1 := a3 r.1.toNat (by omega) (by omega)
        rw [hfr r.1.toNat (by omega) (by omega)] at e1
        cases e1
theorem Holds.mark {x : List Bool} {R : List (Int × Int)} (h : Holds x R) {j N : Nat} (hf : FreeAt x j N) : Holds (markB x j true N) R := by
  refine ⟨fun r hr => ?_, h.2⟩
  obtain ⟨a0, a1, a2, a3⟩ := h.1 r hr
  refine ⟨a0, a1, by rw [markB_length]; exact a2, fun i h2 h3 => ?_⟩
  rw [markB_get _ _ _ _ _ hf.1]
  split
  · rfl
  · exact a3 i h2 h3
theorem Holds.snoc {x : List Bool} {R : List (Int × Int)} (h : Holds x R) {j N : Nat} (hf : FreeAt x j N) (h1 : 1 ≤ N) : Holds (markB x j true N) (R ++ [((j : Int), (N : Int))]) := by
  have hm := h.mark hf
  refine ⟨fun r hr => ?_, ?_⟩
  · rcases List.mem_append.1 hr with hr | hr
    · exact hm.1 r hr
    · rw [List.mem_singleton] at hr
      subst hr
      have := hf.1
      refine ⟨by simp, by simp; omega, by rw [markB_length]; simp; omega, fun i h2 h3 => ?_⟩
      simp at h2 h3
      rw [markB_get _ _ _ _ _ hf.1, if_pos (by omega)]
  · rw [List.pairwise_append]
    refine ⟨hm.2, by simp, fun r hr q hq => ?_⟩
    rw [List.mem_singleton] at hq
    subst hq
    exact h.off hf h1 r hr
/-- Giving back other runs. -/
theorem Holds.given {R : List (Int × Int)} : ∀ (Q : List (Int × Int)) (x : List Bool), Holds x R → Holds x Q → (∀ r ∈ R, ∀ q ∈ Q, Off r q) → Holds (givenBack x Q) R
  | [], x, h, _, _ => h
  | q :: Q, x, h, hq, ho => by
    refine Holds.given Q _ ⟨fun r hr => ?_, h.2⟩ hq.step.2 (fun r hr p hp => ho r hr p (List.mem_cons_of_mem _ hp))
    obtain ⟨a0, a1, a2, a3⟩ := h.1 r hr
    obtain ⟨b0, b1, b2, b3⟩ := hq.1 q (List.mem_cons_self ..)
    have := ho r hr q (List.mem_cons_self ..)
    refine ⟨a0, a1, by rw [markB_length]; exact a2, fun i h2 h3 => ?_⟩
    rw [markB_get _ _ _ _ _ (by omega), if_neg (by rcases this with t | t <;> omega)]
    exact a3 i h2 h3
theorem cnt_given : ∀ (Q : List (Int × Int)) (x : List Bool), Holds x Q → cntTo (givenBack x Q) x.length + (pagesOf Q).length = cntTo x x.length
  | [], x, _ => rfl
  | q :: Q, x, h => by
    obtain ⟨b0, b1, b2, b3⟩ := h.1 q (List.mem_cons_self ..)
    have ih := cnt_given Q _ h.step.2
    rw [markB_length] at ih
    have hu := cnt_unmark x q.1.toNat q.2.toNat x.length (by omega) (fun i h1 h2 => b3 i (by omega) (by omega)) rfl
    rw [pagesOf, List.length_append, List.length_map, List.length_range']
    show cntTo (givenBack (markB x q.1.toNat false q.2.toNat) Q) x.length + _ = _
    omega

/-- What stands of one arena's things. -/
structure Things11 (a : Ar) : Prop where
  inn : ∀ t ∈ a.T, 1 ≤ t.2 ∧ ∃ r ∈ a.R, 16 * r.1 ≤ t.1 ∧ t.1 + t.2 ≤ 16 * (r.1 + r.2)
  two : a.T.Pairwise Off
  plan : a.us < 16 → (∃ r ∈ a.R, r.1 = a.pg ∧ r.2 = 1) ∧ ∀ t ∈ a.T, t.1 + t.2 ≤ 16 * a.pg + a.us ∨ 16 * a.pg + 16 ≤ t.1
  us : 0 ≤ a.us ∧ a.us ≤ 16
/-- What stands of all four. -/
structure Inv11 (x : List Bool) (f : Nat → Ar) : Prop where
  holds : ∀ i, i < 4 → Holds x (f i).R
  apart : ∀ i j, i < 4 → j < 4 → i ≠ j → ∀ r ∈ (f i).R, ∀ q ∈ (f j).R, Off r q
  cnt : (pagesOf (f 0).R).length + (pagesOf (f 1).R).length + (pagesOf (f 2).R).length + (pagesOf (f 3).R).length = cntTo x x.length
  things : ∀ i, i < 4 → Things11 (f i)

theorem Inv11.start (n : Nat) (f : Nat → Ar) (h : ∀ j, j < 4 → Fresh11 (f j)) : Inv11 (List.replicate n false) f := by
  have hR : ∀ j, j < 4 → (f j).R = [] := fun j hj => (h j hj).2.2.2.2.1
  have hT : ∀ j, j < 4 → (f j).T = [] := fun j hj => (h j hj).2.2.2.2.2
  refine ⟨fun i hi => ?_, fun i j hi hj _ r hr => ?_, ?_, fun i hi => ⟨fun t ht => ?_, ?_, fun hu => ?_, ?_⟩⟩
  · rw [hR i hi]; exact ⟨fun r hr => (by cases hr), List.Pairwise.nil⟩
  · rw [hR i hi] at hr; cases hr
  · rw [hR 0 (by omega), hR 1 (by omega), hR 2 (by omega), hR 3 (by omega), cnt_none]; rfl
  · rw [hT i hi] at ht; cases ht
  · rw [hT i hi]; exact List.Pairwise.nil
  · have := (h i hi).2.1; omega
  · have := (h i hi).2.1; omega
theorem sum_upd (G : Ar → Nat) (f : Nat → Ar) (k : Nat) (a : Ar) (hk : k < 4) : G (upd f k a 0) + G (upd f k a 1) + G (upd f k a 2) + G (upd f k a 3) + G (f k) = G (f 0) + G (f 1) + G (f 2) + G (f 3) + G a := by
  have : k = 0 ∨ k = 1 ∨ k = 2 ∨ k = 3 := by omega
  rcases this with rfl | rfl | rfl | rfl <;> simp [upd] <;> omega

/-- Behind a release. -/
theorem Inv11.release {x : List Bool} {f : Nat → Ar} (h : Inv11 x f) {k : Nat} (hk : k < 4) {a : Ar} (hR : a.R = []) (hT : a.T = []) (hu : a.us = 16) : Inv11 (givenBack x (f k).R) (upd f k a) := by
  have hne : ∀ i, i ≠ k → upd f k a i = f i := fun i hi => upd_ne hi
  refine ⟨fun i hi => ?_, fun i j hi hj hij r hr q hq => ?_, ?_, fun i hi => ?_⟩
  · by_cases hik : i = k
    · subst hik; rw [upd_same, hR]; exact ⟨fun r hr => (by cases hr), List.Pairwise.nil⟩
    · rw [hne i hik]; exact Holds.given _ _ (h.holds i hi) (h.holds k hk) (h.apart i k hi hk hik)
  · by_cases hik : i = k
    · subst hik; rw [upd_same, hR] at hr; cases hr
    · by_cases hjk : j = k
      · subst hjk; rw [upd_same, hR] at hq; cases hq
      · rw [hne i hik] at hr; rw [hne j hjk] at hq; exact h.apart i j hi hj hij r hr q hq
  · have h1 := sum_upd (fun a => (pagesOf a.R).length) f k a hk
    have h2 := cnt_given (f k).R x (h.holds k hk)
    have h3 := h.cnt
    rw [givenBack_length]
    simp only [hR] at h1
    simp only [pagesOf, List.length_nil] at h1
    omega
  · by_cases hik : i = k
    · subst hik; rw [upd_same]
      exact ⟨fun t ht => (by rw [hT] at ht; cases ht), by rw [hT]; exact List.Pairwise.nil, fun hh => by omega, by omega⟩
    · rw [hne i hik]; exact h.things i hi
theorem pagesOf_snoc (R : List (Int × Int)) (r : Int × Int) : (pagesOf (R ++ [r])).length = (pagesOf R).length + r.2.toNat := by
  rw [pagesOf_length, pagesOf_length, List.map_append, List.sum_append]
  simp
/-- Behind a placing. -/
theorem Inv11.alloc {x : List Bool} {f : Nat → Ar} (h : Inv11 x f) {k : Nat} (hk : k < 4) (hx : x.length ≤ 1024) {W W' : List Int} {size at_ E : Int} {x' : List Bool} {a : Ar} (hal : AllocTo x W (f k).pg (f k).us (f k).R (f k).T size at_ E x' W' a.pg a.us a.R a.T) :
    Inv11 x' (upd f k a) ∧ (E = 0 → 1 ≤ size ∧ 0 ≤ at_ ∧ at_ + size ≤ 16 * x.length) := by
  have hne : ∀ i, i ≠ k → upd f k a i = f i := fun i hi => upd_ne hi
  have hth := h.things k hk
  have hho := h.holds k hk
  -- where nothing is granted
  have stay : a.R = (f k).R → Things11 a → Inv11 x (upd f k a) := fun hR hT => by
    refine ⟨fun i hi => ?_, fun i j hi hj hij r hr q hq => ?_, ?_, fun i hi => ?_⟩
    · by_cases hik : i = k
      · subst hik; rw [upd_same, hR]; exact hho
      · rw [hne i hik]; exact h.holds i hi
    · by_cases hik : i = k
      · have hjk : j ≠ k := fun e => hij (hik.trans e.symm)
        rw [hik, upd_same, hR] at hr; rw [hne j hjk] at hq
        exact h.apart k j hk hj (Ne.symm hjk) r hr q hq
      · rw [hne i hik] at hr
        by_cases hjk : j = k
        · rw [hjk, upd_same, hR] at hq; exact h.apart i k hi hk hik r hr q hq
        · rw [hne j hjk] at hq; exact h.apart i j hi hj hij r hr q hq
    · have h1 := sum_upd (fun a => (pagesOf a.R).length) f k a hk
      have h3 := h.cnt
      simp only [hR] at h1
      omega
    · by_cases hik : i = k
      · subst hik; rw [upd_same]; exact hT
      · rw [hne i hik]; exact h.things i hi
  have same : a.pg = (f k).pg → a.us = (f k).us → a.R = (f k).R → a.T = (f k).T → Things11 a := fun e1 e2 e3 e4 => by
    refine ⟨?_, ?_, ?_, ?_⟩
    · rw [e3, e4]; exact hth.inn
    · rw [e4]; exact hth.two
    · rw [e1, e2, e3, e4]; exact hth.plan
    · rw [e2]; exact hth.us
  rcases hal with ⟨hE, _, rfl, rfl, _, e1, e2, e3, e4⟩ | ⟨hE, hN, rfl, rfl, rfl, _, e1, e2, e3, e4⟩ | ⟨hE, hN, _, _, rfl, rfl, _, e1, e2, e3, e4⟩ | ⟨hE, hN, j, hf, rfl, rfl, rfl, _, e1, e2, e3, e4⟩
  · exact ⟨stay e3 (same e1 e2 e3 e4), fun q => by omega⟩
  · -- it fits
    have hs1 : 1 ≤ size ∧ size ≤ 16384 := by unfold needE at hE; split at hE <;> omega
    have hs2 : size ≤ 16 - (f k).us := by
      unfold needN at hN
      rw [if_neg (by omega)] at hN
      split at hN
      · assumption
      · omega
    have hu := hth.us
    have ea : placeA (f k).pg (f k).us size 0 = (f k).pg * 16 + (f k).us := by unfold placeA; rw [if_neg (by omega), if_pos hs2]
    have ep : placeP (f k).pg (f k).us size 0 = ((f k).pg, (f k).us + size) := by unfold placeP; rw [if_neg (by omega), if_pos hs2]
    rw [ep] at e1 e2
    rw [ea] at e4 ⊢
    dsimp only at e1 e2
    obtain ⟨⟨r, hr, r1, r2⟩, hpl⟩ := hth.plan (by omega)
    have hrb := hho.1 r hr
    refine ⟨stay e3 ⟨fun t ht => ?_, ?_, fun hh => ?_, by omega⟩, fun _ => ⟨hs1.1, by omega, by omega⟩⟩
    · rw [e4] at ht
      rcases List.mem_append.1 ht with ht | ht
      · rw [e3]; exact hth.inn t ht
      · rw [List.mem_singleton] at ht
        subst ht
        exact ⟨hs1.1, r, by rw [e3]; exact hr, by dsimp only; omega, by dsimp only; omega⟩
    · rw [e4, List.pairwise_append]
      refine ⟨hth.two, by simp, fun t ht u hu2 => ?_⟩
      rw [List.mem_singleton] at hu2
      subst hu2
      show t.1 + t.2 ≤ (f k).pg * 16 + (f k).us ∨ (f k).pg * 16 + (f k).us + size ≤ t.1
      rcases hpl t ht with q | q <;> omega
    · refine ⟨⟨r, by rw [e3]; exact hr, by omega, r2⟩, fun t ht => ?_⟩
      rw [e4] at ht
      rcases List.mem_append.1 ht with ht | ht
      · rcases hpl t ht with q | q <;> omega
      · rw [List.mem_singleton] at ht
        subst ht
        left
        dsimp only
        omega
  · exact ⟨stay e3 (same e1 e2 e3 e4), fun q => by omega⟩
  · -- pages of its own
    have hs1 : 1 ≤ size ∧ size ≤ 16384 := by unfold needE at hE; split at hE <;> omega
    have hs2 : ¬ size ≤ 16 - (f k).us := by
      unfold needN at hN
      rw [if_neg (by omega)] at hN
      split at hN
      · omega
      · assumption
    have eN : needN (f k).us size = (size + 15) / 16 := by unfold needN; rw [if_neg (by omega), if_neg hs2]
    obtain ⟨N, hNn⟩ : ∃ N : Nat, needN (f k).us size = (N : Int) := ⟨(needN (f k).us size).toNat, by omega⟩
    rw [hNn] at e3 hN eN hf ⊢
    rw [Int.toNat_natCast] at hf ⊢
    have hu := hth.us
    have hfl := hf.1.1
    have ea : placeA (f k).pg (f k).us size j = (j : Int) * 16 := by unfold placeA; rw [if_neg (by omega), if_neg hs2, if_neg (by omega)]
    rw [ea] at e4 ⊢
    have hof := hho.off hf.1 (by omega)
    have hnew : ∀ t ∈ (f k).T, t.1 + t.2 ≤ (j : Int) * 16 ∨ (j : Int) * 16 + 16 * N ≤ t.1 := fun t ht => by
      obtain ⟨_, r, hr, q1, q2⟩ := hth.inn t ht
      have hor : r.1 + r.2 ≤ (j : Int) ∨ (j : Int) + (N : Int) ≤ r.1 := hof r hr
      rcases hor with q | q <;> omega
    refine ⟨⟨fun i hi => ?_, fun i i' hi hi' hij r hr q hq => ?_, ?_, fun i hi => ?_⟩, fun _ => ⟨hs1.1, by omega, by omega⟩⟩
    · by_cases hik : i = k
      · subst hik; rw [upd_same, e3]; exact hho.snoc hf.1 (by omega)
      · rw [hne i hik]; exact (h.holds i hi).mark hf.1
    · have key : ∀ m, m < 4 → m ≠ k → ∀ r ∈ (f k).R ++ [((j : Int), (N : Int))], ∀ q ∈ (f m).R, Off r q := fun m hm hmk r hr q hq => by
        rcases List.mem_append.1 hr with hr | hr
        · exact h.apart k m hk hm (Ne.symm hmk) r hr q hq
        · rw [List.mem_singleton] at hr
          subst hr
          exact ((h.holds m hm).off hf.1 (by omega) q hq).symm
      by_cases hik : i = k
      · have hjk : i' ≠ k := fun e => hij (hik.trans e.symm)
        rw [hik, upd_same, e3] at hr; rw [hne i' hjk] at hq
        exact key i' hi' hjk r hr q hq
      · rw [hne i hik] at hr
        by_cases hjk : i' = k
        · rw [hjk, upd_same, e3] at hq; exact (key i hi hik q hq r hr).symm
        · rw [hne i' hjk] at hq; exact h.apart i i' hi hi' hij r hr q hq
    · have h1 := sum_upd (fun a => (pagesOf a.R).length) f k a hk
      have h3 := h.cnt
      have h4 := cnt_markF x j N x.length hf.1 rfl
      simp only [e3, pagesOf_snoc, Int.toNat_natCast] at h1
      rw [markB_length]
      omega
    · by_cases hik : i = k
      · subst hik; rw [upd_same]
        refine ⟨fun t ht => ?_, ?_, fun hh => ?_, ?_⟩
        · rw [e4] at ht
          rcases List.mem_append.1 ht with ht | ht
          · obtain ⟨q0, r, hr, q1⟩ := hth.inn t ht
            exact ⟨q0, r, by rw [e3]; exact List.mem_append_left _ hr, q1⟩
          · rw [List.mem_singleton] at ht
            subst ht
            exact ⟨hs1.1, ((j : Int), (N : Int)), by rw [e3]; simp, by dsimp only; omega, by dsimp only; omega⟩
        · rw [e4, List.pairwise_append]
          refine ⟨hth.two, by simp, fun t ht u hu2 => ?_⟩
          rw [List.mem_singleton] at hu2
          subst hu2
          show t.1 + t.2 ≤ (j : Int) * 16 ∨ (j : Int) * 16 + size ≤ t.1
          rcases hnew t ht with q | q <;> omega
        · by_cases hbig : 16 < size
          · have ep : placeP (f i).pg (f i).us size j = ((f i).pg, (f i).us) := by unfold placeP; rw [if_neg (by omega), if_neg hs2, if_neg (by omega), if_pos hbig]
            rw [ep] at e1 e2
            dsimp only at e1 e2
            obtain ⟨⟨r, hr, r1, r2⟩, hpl⟩ := hth.plan (by omega)
            refine ⟨⟨r, by rw [e3]; exact List.mem_append_left _ hr, by omega, r2⟩, fun t ht => ?_⟩
            rw [e4] at ht
            rw [e1, e2]
            rcases List.mem_append.1 ht with ht | ht
            · exact hpl t ht
            · rw [List.mem_singleton] at ht
              subst ht
              have hor : r.1 + r.2 ≤ (j : Int) ∨ (j : Int) + (N : Int) ≤ r.1 := hof r hr
              dsimp only
              rcases hor with q | q
              · right; omega
              · left; omega
          · have ep : placeP (f i).pg (f i).us size j = ((j : Int), size) := by unfold placeP; rw [if_neg (by omega), if_neg hs2, if_neg (by omega), if_neg hbig]
            rw [ep] at e1 e2
            dsimp only at e1 e2
            have hN1 : N = 1 := by omega
            refine ⟨⟨((j : Int), (N : Int)), by rw [e3]; simp, by rw [e1], by rw [hN1]; rfl⟩, fun t ht => ?_⟩
            rw [e4] at ht
            rw [e1, e2]
            rcases List.mem_append.1 ht with ht | ht
            · rcases hnew t ht with q | q
              · left; omega
              · right; omega
            · rw [List.mem_singleton] at ht
              subst ht
              left; dsimp only; omega
        · by_cases hbig : 16 < size
          · have ep : placeP (f i).pg (f i).us size j = ((f i).pg, (f i).us) := by unfold placeP; rw [if_neg (by omega), if_neg hs2, if_neg (by omega), if_pos hbig]
            rw [ep] at e2
            dsimp only at e2
            omega
          · have ep : placeP (f i).pg (f i).us size j = ((j : Int), size) := by unfold placeP; rw [if_neg (by omega), if_neg hs2, if_neg (by omega), if_neg hbig]
            rw [ep] at e2
            dsimp only at e2
            omega
      · rw [hne i hik]; exact h.things i hi
/-- What is new is 0. -/
theorem AllocTo.zero {x : List Bool} {W : List Int} {pg us : Int} {R T : List (Int × Int)} {size at_ E : Int} {x' : List Bool} {W' : List Int} {pg' us' : Int} {R' T' : List (Int × Int)} (h : AllocTo x W pg us R T size at_ E x' W' pg' us' R' T') (hx : x.length ≤ 1024) (hW : W.length = 16 * x.length)
    (hE : E = 0) (hm : (pagesOf R).length < (pagesOf R').length) : ∀ i : Nat, at_ ≤ i → (i : Int) < at_ + size → W'.getD i 0 = 0 := by
  intro i h1 h2
  rcases h with ⟨_, _, rfl, rfl, _, e1, e2, e3, e4⟩ | ⟨_, _, rfl, rfl, rfl, _, e1, e2, e3, e4⟩ | ⟨_, _, _, _, rfl, rfl, _, e1, e2, e3, e4⟩ | ⟨hE2, hN, j, hf, rfl, rfl, rfl, rfl, e1, e2, e3, e4⟩
  · omega
  · rw [e3] at hm; omega
  · omega
  · have hs1 : 1 ≤ size ∧ size ≤ 16384 := by unfold needE at hE2; split at hE2 <;> omega
    have hs2 : ¬ size ≤ 16 - us := by
      unfold needN at hN
      rw [if_neg (by omega)] at hN
      split at hN
      · omega
      · assumption
    have eN : needN us size = (size + 15) / 16 := by unfold needN; rw [if_neg (by omega), if_neg hs2]
    have hfl := hf.1.1
    have ea : placeA pg us size j = (j : Int) * 16 := by unfold placeA; rw [if_neg (by omega), if_neg hs2, if_neg (by omega)]
    rw [ea] at h1 h2
    rw [fillL_get _ _ _ _ (by omega), if_pos (by omega)]
theorem AllocTo.more {x : List Bool} {W : List Int} {pg us : Int} {R T : List (Int × Int)} {size at_ E : Int} {x' : List Bool} {W' : List Int} {pg' us' : Int} {R' T' : List (Int × Int)} (h : AllocTo x W pg us R T size at_ E x' W' pg' us' R' T') : R'.length ≤ R.length + 1 ∧ T'.length ≤ T.length + 1 ∧ x'.length = x.length ∧ W'.length = W.length ∧ 0 ≤ E ∧ E ≤ 3 := by
  rcases h with ⟨_, _, rfl, rfl, rfl, e1, e2, e3, e4⟩ | ⟨_, _, rfl, rfl, rfl, rfl, e1, e2, e3, e4⟩ | ⟨_, _, _, _, rfl, rfl, rfl, e1, e2, e3, e4⟩ | ⟨hE, hN, j, hf, rfl, rfl, rfl, rfl, e1, e2, e3, e4⟩ <;> rw [e3, e4]
  · exact ⟨by omega, by omega, rfl, rfl, by omega, by omega⟩
  · exact ⟨by omega, by simp, rfl, rfl, by omega, by omega⟩
  · exact ⟨by omega, by omega, rfl, rfl, by omega, by omega⟩
  · exact ⟨by simp, by simp, by rw [markB_length], by rw [fillL_length], by omega, by omega⟩
theorem Holds.within {x : List Bool} {R : List (Int × Int)} (h : Holds x R) (hl : R.length ≤ 1000) (hx : x.length ≤ 1024) : Within11 R :=
  ⟨hl, fun r hr => by obtain ⟨a0, a1, a2, _⟩ := h.1 r hr; omega⟩

/-- The things of the first arenas. -/
def allT (f : Nat → Ar) : Nat → List (Int × Int)
  | 0 => []
  | i + 1 => allT f i ++ (f i).T
theorem mem_allT {f : Nat → Ar} {u : Int × Int} : ∀ {i : Nat}, u ∈ allT f i → ∃ j, j < i ∧ u ∈ (f j).T
  | i + 1, h => by
    rcases List.mem_append.1 h with h | h
    · obtain ⟨j, hj, hu⟩ := mem_allT h
      exact ⟨j, by omega, hu⟩
    · exact ⟨i, by omega, h⟩
theorem Inv11.offT {x : List Bool} {f : Nat → Ar} (h : Inv11 x f) {i c : Nat} (hi : i < 4) (hc : c < (f i).T.length) {y : Int × Int} (hy : y ∈ allT f i ++ (f i).T.take c) : Off y (f i).T[c] := by
  rcases List.mem_append.1 hy with hy | hy
  · obtain ⟨j, hj, hu⟩ := mem_allT hy
    obtain ⟨_, r, hr, r1, r2⟩ := (h.things j (by omega)).inn y hu
    obtain ⟨_, q, hq, q1, q2⟩ := (h.things i hi).inn _ (List.getElem_mem hc)
    have : r.1 + r.2 ≤ q.1 ∨ q.1 + q.2 ≤ r.1 := h.apart j i (by omega) hi (by omega) r hr q hq
    show y.1 + y.2 ≤ (f i).T[c].1 ∨ (f i).T[c].1 + (f i).T[c].2 ≤ y.1
    rcases this with t | t
    · left; omega
    · right; omega
  · obtain ⟨d, hd, rfl⟩ := List.mem_iff_getElem.1 hy
    rw [List.length_take] at hd
    rw [List.getElem_take]
    exact List.pairwise_iff_getElem.1 (h.things i hi).two d c (by omega) hc (by omega)
theorem Inv11.hasT {x : List Bool} {f : Nat → Ar} (h : Inv11 x f) {i : Nat} (hi : i < 4) {t : Int × Int} (ht : t ∈ (f i).T) : 1 ≤ t.2 ∧ 0 ≤ t.1 ∧ t.1 + t.2 ≤ 16 * x.length ∧ (0 ≤ t.1 ∧ t.1 / 16 ∈ pagesOf (f i).R) ∧ (0 ≤ t.1 + t.2 - 1 ∧ (t.1 + t.2 - 1) / 16 ∈ pagesOf (f i).R) := by
  obtain ⟨h1, r, hr, r1, r2⟩ := (h.things i hi).inn t ht
  obtain ⟨a0, a1, a2, _⟩ := (h.holds i hi).1 r hr
  exact ⟨h1, by omega, by omega, ⟨by omega, mem_pagesOf.2 ⟨r, hr, by omega, by omega⟩⟩, ⟨by omega, mem_pagesOf.2 ⟨r, hr, by omega, by omega⟩⟩⟩
/-- Behind words that are written. -/
theorem PagesAt.wrote {w w' : World} {s p g m h : Nat} {x : List Bool} {W W' : List Int} (k : PagesAt w s p g m h x W) (hm : MemAt w' m h W') (hc : Ch (One h) w w') (hl : W'.length = W.length) : PagesAt w' s p g m h x W' :=
  ⟨k.sp, k.sg, k.sm, k.sh, k.pm, k.ph, k.gm, k.gh, hc.heap k.head (fun q => k.sh q), k.row.ch hc (fun q => k.ph q) (fun q => k.gh q), hm, k.le, by rw [hl]; exact k.len⟩
end Go.Proofs.YtpldogmamifdpaaDoor

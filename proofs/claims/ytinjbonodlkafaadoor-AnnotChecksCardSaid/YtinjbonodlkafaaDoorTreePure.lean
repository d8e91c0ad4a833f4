/- Trees as rising rows of a number and its parent: plain Lean. -/
import Derived.Test.YtinjbonodlkafaaDoorSort
set_option linter.unusedVariables false
set_option linter.unusedSimpArgs false
namespace Go.Proofs.YtinjbonodlkafaaDoor
open Go

abbrev TRows := List (Int × Int)
def pget : TRows → Int → Option Int
  | [], _ => none
  | (j, p) :: r, k => if j = k then some p else pget r k
def kids (L : TRows) (id : Int) : List Int := (L.filter (fun x => decide (x.2 = id))).map (·.1)
def subF (L : TRows) : Nat → Int → List Int
  | 0, _ => []
  | n + 1, id => (kids L id).flatMap fun k => k :: subF L n k
/-- Those below one, as the walk meets them. -/
def sub (L : TRows) (id : Int) : List Int := subF L 1000 id

structure TreeOk (L : TRows) (n : Nat) : Prop where
  up : L.Pairwise (fun x y => x.1 < y.1)
  ids : ∀ x ∈ L, 1 ≤ x.1 ∧ x.1 ≤ 9223372036854775807 ∧ (x.2 = 0 ∨ ∃ p, (x.2, p) ∈ L)
  high : ∃ h : Int → Nat, (∀ x ∈ L, h x.1 < h x.2) ∧ ∀ q, h q ≤ n
  small : n ≤ 1000
theorem TreeOk.nil : TreeOk [] 0 := ⟨List.Pairwise.nil, by simp, ⟨fun _ => 0, by simp, by simp⟩, by omega⟩
theorem TreeOk.more {L : TRows} {n : Nat} (h : TreeOk L n) {m : Nat} (hm : n ≤ m) (h2 : m ≤ 1000) : TreeOk L m := ⟨h.up, h.ids, by obtain ⟨f, h1, h3⟩ := h.high; exact ⟨f, h1, fun q => Nat.le_trans (h3 q) hm⟩, h2⟩

/-- Two rising rows with the same members. -/
theorem pairs_eq : ∀ {l k : TRows}, l.Pairwise (fun x y => x.1 < y.1) → k.Pairwise (fun x y => x.1 < y.1) → (∀ x, x ∈ l ↔ x ∈ k) → l = k
  | [], [], _, _, _ => rfl
  | [], y :: k, _, _, h => absurd ((h y).2 (by simp)) (by simp)
  | x :: l, [], _, _, h => absurd ((h x).1 (by simp)) (by simp)
  | x :: l, y :: k, hl, hk, h => by
    rw [List.pairwise_cons] at hl hk
    have hxy : x = y := by
      rcases List.mem_cons.1 ((h x).1 (by simp)) with e | e
      · exact e
      · rcases List.mem_cons.1 ((h y).2 (by simp)) with e' | e'
        · exact e'.symm
        · have h1 := hk.1 x e
          have h2 := hl.1 y e'
          omega
    subst hxy
    rw [pairs_eq hl.2 hk.2 (fun z => ?_)]
    constructor
    · intro hz
      rcases List.mem_cons.1 ((h z).1 (List.mem_cons_of_mem _ hz)) with e | e
      · subst e; have := hl.1 z hz; omega
      · exact e
    · intro hz
      rcases List.mem_cons.1 ((h z).2 (List.mem_cons_of_mem _ hz)) with e | e
      · subst e; have := hk.1 z hz; omega
      · exact e

theorem up_uniq : ∀ {L : TRows}, L.Pairwise (fun x y => x.1 < y.1) → ∀ {k p q : Int}, (k, p) ∈ L → (k, q) ∈ L → p = q
  | [], _, _, _, _, h, _ => by simp at h
  | x :: L, h, k, p, q, h1, h2 => by
    obtain ⟨hx, hL⟩ := List.pairwise_cons.1 h
    rcases List.mem_cons.1 h1 with e1 | e1
    · rcases List.mem_cons.1 h2 with e2 | e2
      · rw [← e1] at e2; exact ((Prod.mk.inj e2).2).symm
      · have := hx _ e2; rw [← e1] at this; simp at this
    · rcases List.mem_cons.1 h2 with e2 | e2
      · have := hx _ e1; rw [← e2] at this; simp at this
      · exact up_uniq hL e1 e2
theorem pget_some {L : TRows} (h : L.Pairwise (fun x y => x.1 < y.1)) {k p : Int} : pget L k = some p ↔ (k, p) ∈ L := by
  induction L with
  | nil => simp [pget]
  | cons x r ih =>
    obtain ⟨j, u⟩ := x
    obtain ⟨hx, hL⟩ := List.pairwise_cons.1 h
    simp only [pget]
    by_cases e : j = k
    · subst e
      rw [if_pos rfl]
      constructor
      · intro z; rw [Option.some.inj z]; simp
      · intro z
        rcases List.mem_cons.1 z with e1 | e1
        · rw [(Prod.mk.inj e1).2]
        · have := hx _ e1; simp at this
    · rw [if_neg e, ih hL]
      constructor
      · exact List.mem_cons_of_mem _
      · intro z
        rcases List.mem_cons.1 z with e1 | e1
        · exact absurd (Prod.mk.inj e1).1.symm e
        · exact e1
theorem pget_none {L : TRows} (h : L.Pairwise (fun x y => x.1 < y.1)) {k : Int} : pget L k = none ↔ ∀ p, (k, p) ∉ L := by
  constructor
  · intro e p hp; rw [(pget_some h).2 hp] at e; cases e
  · intro hn
    cases e : pget L k with
    | none => rfl
    | some p => exact absurd ((pget_some h).1 e) (hn p)

theorem mem_kids {L : TRows} {k id : Int} : k ∈ kids L id ↔ (k, id) ∈ L := by
  unfold kids
  simp only [List.mem_map, List.mem_filter, decide_eq_true_eq]
  constructor
  · rintro ⟨⟨a, b⟩, ⟨h1, h2⟩, h3⟩; simp only at h2 h3; subst h2 h3; exact h1
  · intro h; exact ⟨(k, id), ⟨h, rfl⟩, rfl⟩
theorem kids_up {L : TRows} (h : L.Pairwise (fun x y => x.1 < y.1)) (id : Int) : (kids L id).Pairwise (· < ·) := List.pairwise_map.2 (List.Pairwise.filter _ h)
theorem kids_length (L : TRows) (id : Int) : (kids L id).length ≤ L.length := by unfold kids; rw [List.length_map]; exact List.length_filter_le _ _

theorem flatMap_congr' {α β : Type} {l : List α} {f g : α → List β} (h : ∀ x ∈ l, f x = g x) : l.flatMap f = l.flatMap g := by
  induction l with
  | nil => rfl
  | cons x r ih => rw [List.flatMap_cons, List.flatMap_cons, h x (by simp), ih (fun y hy => h y (List.mem_cons_of_mem _ hy))]

theorem subF_stable {L : TRows} {h : Int → Nat} (hh : ∀ x ∈ L, h x.1 < h x.2) : ∀ (n : Nat) (id : Int), h id ≤ n → subF L n id = subF L (n + 1) id
  | 0, id, hn => by
    have : kids L id = [] := by
      rw [List.eq_nil_iff_forall_not_mem]
      intro k hk
      have := hh _ (mem_kids.1 hk)
      simp only at this
      omega
    simp [subF, this]
  | n + 1, id, hn => by
    show (kids L id).flatMap (fun k => k :: subF L n k) = (kids L id).flatMap (fun k => k :: subF L (n + 1) k)
    refine flatMap_congr' (fun k hk => ?_)
    have := hh _ (mem_kids.1 hk)
    simp only at this
    rw [subF_stable hh n k (by omega)]

section
variable {L : TRows} {n : Nat}
theorem sub_eq (ok : TreeOk L n) (id : Int) : sub L id = (kids L id).flatMap fun k => k :: sub L k := by
  obtain ⟨h, hh, hn⟩ := ok.high
  unfold sub
  rw [subF_stable hh 1000 id (Nat.le_trans (hn id) ok.small)]
  rfl
theorem tree_ind (ok : TreeOk L n) {P : Int → Prop} (step : ∀ id, (∀ k ∈ kids L id, P k) → P id) : ∀ id, P id := by
  obtain ⟨h, hh, _⟩ := ok.high
  have key : ∀ m id, h id < m → P id := by
    intro m
    induction m with
    | zero => intro id hm; omega
    | succ m ih => exact fun id hm => step id (fun k hk => ih k (by have := hh _ (mem_kids.1 hk); simp only at this; omega))
  exact fun id => key _ id (Nat.lt_succ_self _)
/-- Upward: from the parents on. -/
theorem tree_up (ok : TreeOk L n) {P : Int → Prop} (step : ∀ k p, (k, p) ∈ L → (p ≠ 0 → P p) → P k) : ∀ k p, (k, p) ∈ L → P k := by
  obtain ⟨h, hh, hn⟩ := ok.high
  have key : ∀ m k p, (k, p) ∈ L → n - h k < m → P k := by
    intro m
    induction m with
    | zero => intro k p _ hm; omega
    | succ m ih =>
      intro k p hk hm
      refine step k p hk (fun hp => ?_)
      rcases (ok.ids _ hk).2.2 with e | ⟨q, hq⟩
      · exact absurd e hp
      · have h1 := hh _ hk
        have h2 := hn p
        simp only at h1 hq
        exact ih p q hq (by omega)
  exact fun k p hk => key _ k p hk (Nat.lt_succ_self _)

theorem mem_sub (ok : TreeOk L n) {a b : Int} : a ∈ sub L b ↔ ∃ k ∈ kids L b, a = k ∨ a ∈ sub L k := by
  rw [sub_eq ok, List.mem_flatMap]
  simp only [List.mem_cons]
theorem sub_ids (ok : TreeOk L n) : ∀ b, ∀ a ∈ sub L b, ∃ p, (a, p) ∈ L := tree_ind ok (fun b ih a ha => by
  obtain ⟨k, hk, e | e⟩ := (mem_sub ok).1 ha
  · exact ⟨b, by rw [e]; exact mem_kids.1 hk⟩
  · exact ih k hk a e)
theorem zero_sub (ok : TreeOk L n) (b : Int) : (0 : Int) ∉ sub L b := fun h => by
  obtain ⟨p, hp⟩ := sub_ids ok b 0 h
  have := (ok.ids _ hp).1
  simp only at this
  omega
theorem sub_block (ok : TreeOk L n) : ∀ b, ∀ a ∈ sub L b, ∃ pre post, sub L b = pre ++ (a :: sub L a) ++ post := tree_ind ok (fun b ih a ha => by
  obtain ⟨k, hk, e⟩ := (mem_sub ok).1 ha
  obtain ⟨k1, k2, hs⟩ := List.append_of_mem hk
  have hb : sub L b = (k1.flatMap fun k => k :: sub L k) ++ (k :: sub L k) ++ (k2.flatMap fun k => k :: sub L k) := by
    rw [sub_eq ok, hs]; simp
  rcases e with e | e
  · subst e; exact ⟨_, _, hb⟩
  · obtain ⟨p, q, hpq⟩ := ih k hk a e
    refine ⟨(k1.flatMap fun k => k :: sub L k) ++ k :: p, q ++ (k2.flatMap fun k => k :: sub L k), ?_⟩
    rw [hb, hpq]
    simp)
theorem sub_up (ok : TreeOk L n) {a b : Int} : a ∈ sub L b ↔ ∃ p, (a, p) ∈ L ∧ (p = b ∨ p ∈ sub L b) := by
  constructor
  · revert a
    refine tree_ind ok (P := fun b => ∀ {a : Int}, a ∈ sub L b → ∃ p, (a, p) ∈ L ∧ (p = b ∨ p ∈ sub L b)) (fun b ih a ha => ?_) b
    obtain ⟨k, hk, e | e⟩ := (mem_sub ok).1 ha
    · exact ⟨b, by rw [e]; exact mem_kids.1 hk, .inl rfl⟩
    · obtain ⟨p, hp, hq⟩ := ih k hk e
      exact ⟨p, hp, .inr ((mem_sub ok).2 ⟨k, hk, hq⟩)⟩
  · rintro ⟨p, hp, e | e⟩
    · subst e; exact (mem_sub ok).2 ⟨a, mem_kids.2 hp, .inl rfl⟩
    · obtain ⟨p1, p2, hs⟩ := sub_block ok b p e
      have : a ∈ sub L p := (mem_sub ok).2 ⟨a, mem_kids.2 hp, .inl rfl⟩
      rw [hs]
      simp [this]
theorem sub_step (ok : TreeOk L n) {a p b : Int} (h : (a, p) ∈ L) : a ∈ sub L b ↔ (p = b ∨ p ∈ sub L b) := by
  rw [sub_up ok]
  constructor
  · rintro ⟨q, hq, e⟩; rw [up_uniq ok.up h hq]; exact e
  · intro e; exact ⟨p, h, e⟩
theorem not_sub_self (ok : TreeOk L n) : ∀ (a : Int) {b : Int}, a ∈ sub L b → ∀ {h : Int → Nat}, (∀ x ∈ L, h x.1 < h x.2) → h a < h b := by
  intro a b
  revert a
  refine tree_ind ok (P := fun b => ∀ a, a ∈ sub L b → ∀ {h : Int → Nat}, (∀ x ∈ L, h x.1 < h x.2) → h a < h b) (fun b ih a ha h hh => ?_) b
  obtain ⟨k, hk, e | e⟩ := (mem_sub ok).1 ha
  · rw [e]; exact hh _ (mem_kids.1 hk)
  · have h1 := ih k hk a e hh
    have h2 := hh _ (mem_kids.1 hk)
    simp only at h2
    omega
theorem sub_apart (ok : TreeOk L n) {b k1 k2 : Int} (h1 : k1 ∈ kids L b) (h2 : k2 ∈ kids L b) (hne : k1 ≠ k2) : ∀ a p, (a, p) ∈ L → ¬ ((a = k1 ∨ a ∈ sub L k1) ∧ (a = k2 ∨ a ∈ sub L k2)) := by
  obtain ⟨h, hh, _⟩ := ok.high
  have g1 := hh _ (mem_kids.1 h1)
  have g2 := hh _ (mem_kids.1 h2)
  simp only at g1 g2
  have low : ∀ k, h k < h b → ¬ (b = k ∨ b ∈ sub L k) := by
    rintro k hk (e | e)
    · rw [e] at hk; omega
    · have := not_sub_self ok b e hh; omega
  refine tree_up ok (P := fun a => ¬ ((a = k1 ∨ a ∈ sub L k1) ∧ (a = k2 ∨ a ∈ sub L k2))) ?_
  rintro a p hp ih ⟨e1, e2⟩
  rcases e1 with e1 | e1
  · subst e1
    obtain rfl := up_uniq ok.up hp (mem_kids.1 h1)
    rcases e2 with e2 | e2
    · exact hne e2
    · exact low k2 g2 ((sub_step ok hp).1 e2)
  · rcases e2 with e2 | e2
    · subst e2
      obtain rfl := up_uniq ok.up hp (mem_kids.1 h2)
      exact low k1 g1 ((sub_step ok hp).1 e1)
    · have q1 := (sub_step ok hp).1 e1
      have q2 := (sub_step ok hp).1 e2
      by_cases h0 : p = 0
      · subst h0
        have n1 := (ok.ids _ (mem_kids.1 h1)).1
        rcases q1 with q1 | q1
        · simp only at n1; omega
        · exact zero_sub ok _ q1
      · exact ih h0 ⟨q1, q2⟩
theorem nodup_flat {l : List Int} {f : Int → List Int} (hl : l.Nodup) (h1 : ∀ k ∈ l, (k :: f k).Nodup) (h2 : ∀ k1 ∈ l, ∀ k2 ∈ l, k1 ≠ k2 → ∀ a, ¬ (a ∈ k1 :: f k1 ∧ a ∈ k2 :: f k2)) : (l.flatMap fun k => k :: f k).Nodup := by
  induction l with
  | nil => simp
  | cons x r ih =>
    rw [List.flatMap_cons, List.nodup_append]
    obtain ⟨hx, hr⟩ := List.nodup_cons.1 hl
    refine ⟨h1 x (by simp), ih hr (fun k hk => h1 k (List.mem_cons_of_mem _ hk)) (fun a ha b hb => h2 a (List.mem_cons_of_mem _ ha) b (List.mem_cons_of_mem _ hb)), fun a ha b hb e => ?_⟩
    subst e
    obtain ⟨k, hk, hak⟩ := List.mem_flatMap.1 hb
    exact h2 x (by simp) k (List.mem_cons_of_mem _ hk) (fun e => hx (e ▸ hk)) a ⟨ha, hak⟩
theorem sub_nodup (ok : TreeOk L n) : ∀ b, (sub L b).Nodup := tree_ind ok (fun b ih => by
  obtain ⟨h, hh, _⟩ := ok.high
  rw [sub_eq ok]
  refine nodup_flat ((kids_up ok.up b).imp (fun h => by omega)) (fun k hk => List.nodup_cons.2 ⟨fun e => ?_, ih k hk⟩) (fun k1 h1 k2 h2 hne a ha => ?_)
  · have := not_sub_self ok k e hh; omega
  · obtain ⟨p, hp⟩ : ∃ p, (a, p) ∈ L := by
      rcases List.mem_cons.1 ha.1 with e | e
      · exact ⟨b, by rw [e]; exact mem_kids.1 h1⟩
      · exact sub_ids ok _ a e
    exact sub_apart ok h1 h2 hne a p hp ⟨List.mem_cons.1 ha.1, List.mem_cons.1 ha.2⟩)
theorem all_sub (ok : TreeOk L n) : ∀ k p, (k, p) ∈ L → k ∈ sub L 0 := tree_up ok (fun k p hk ih => by
  rw [sub_step ok hk]
  by_cases e : p = 0
  · exact .inl e
  · exact .inr (ih e))
theorem mem_walk (ok : TreeOk L n) {k : Int} : k ∈ sub L 0 ↔ ∃ p, (k, p) ∈ L := ⟨sub_ids ok 0 k, fun ⟨p, hp⟩ => all_sub ok k p hp⟩
theorem ids_nodup (ok : TreeOk L n) : (L.map (·.1)).Nodup := List.pairwise_map.2 (ok.up.imp (fun h => by omega))
theorem walk_length (ok : TreeOk L n) : (sub L 0).length = L.length := by
  have hp : (sub L 0).Perm (L.map (·.1)) := (List.perm_ext_iff_of_nodup (sub_nodup ok 0) (ids_nodup ok)).2 (fun k => by
    rw [mem_walk ok, List.mem_map]
    constructor
    · rintro ⟨p, hp⟩; exact ⟨_, hp, rfl⟩
    · rintro ⟨⟨a, b⟩, h1, rfl⟩; exact ⟨b, h1⟩)
  rw [hp.length_eq, List.length_map]
theorem subT_length (ok : TreeOk L n) (a : Int) : (sub L a).length ≤ L.length := by
  by_cases h : a ∈ sub L 0
  · obtain ⟨pre, post, hs⟩ := sub_block ok 0 a h
    have := congrArg List.length hs
    rw [walk_length ok] at this
    simp at this
    omega
  · by_cases h0 : a = 0
    · rw [h0, walk_length ok]; omega
    · have : kids L a = [] := by
        rw [List.eq_nil_iff_forall_not_mem]
        intro k hk
        rcases (ok.ids _ (mem_kids.1 hk)).2.2 with e | ⟨p, hp⟩
        · exact h0 e
        · exact h (all_sub ok _ _ hp)
      rw [sub_eq ok, this]; simp

/-! ### Intervals -/
def at_ (L : TRows) (a : Int) : Nat := (sub L 0).idxOf a
theorem at_block (ok : TreeOk L n) {a : Int} (h : a ∈ sub L 0) : ∃ pre post, sub L 0 = pre ++ (a :: sub L a) ++ post ∧ at_ L a = pre.length := by
  obtain ⟨pre, post, hs⟩ := sub_block ok 0 a h
  refine ⟨pre, post, hs, ?_⟩
  have hn := sub_nodup ok 0
  rw [hs, List.append_assoc, List.nodup_append] at hn
  have hna : a ∉ pre := fun e => hn.2.2 a e a (by simp) rfl
  unfold at_
  rw [hs, List.append_assoc, List.idxOf_append, if_neg hna]
  simp
theorem at_get (ok : TreeOk L n) {a : Int} (h : a ∈ sub L 0) : at_ L a < (sub L 0).length ∧ (sub L 0)[at_ L a]? = some a := by
  obtain ⟨pre, post, hs, ha⟩ := at_block ok h
  rw [ha, hs]
  refine ⟨by simp, by simp⟩
theorem at_of (ok : TreeOk L n) {i : Nat} (hi : i < (sub L 0).length) : at_ L (sub L 0)[i] = i := by
  obtain ⟨h1, h2⟩ := at_get ok (List.getElem_mem hi)
  have hn := sub_nodup ok 0
  rw [List.getElem?_eq_getElem h1] at h2
  have h3 := Option.some.inj h2
  rcases Nat.lt_trichotomy (at_ L (sub L 0)[i]) i with e | e | e
  · exact absurd h3 (List.pairwise_iff_getElem.1 hn _ _ h1 hi e)
  · exact e
  · exact absurd h3.symm (List.pairwise_iff_getElem.1 hn _ _ hi h1 e)
theorem at_bd (ok : TreeOk L n) {a : Int} (h : a ∈ sub L 0) : at_ L a + (1 + (sub L a).length) ≤ (sub L 0).length := by
  obtain ⟨pre, post, hs, ha⟩ := at_block ok h
  have := congrArg List.length hs
  simp at this
  omega
theorem within_iff (ok : TreeOk L n) {a b : Int} (ha : a ∈ sub L 0) (hb : b ∈ sub L 0) : (at_ L b ≤ at_ L a ∧ at_ L a < at_ L b + (1 + (sub L b).length)) ↔ (a = b ∨ a ∈ sub L b) := by
  obtain ⟨pre, post, hs, hb'⟩ := at_block ok hb
  obtain ⟨h1, h2⟩ := at_get ok ha
  constructor
  · rintro ⟨g1, g2⟩
    rw [hs, List.append_assoc, List.getElem?_append_right (by omega), List.getElem?_append_left (by simp; omega)] at h2
    exact List.mem_cons.1 (List.mem_of_getElem? h2)
  · intro hm
    have hn := sub_nodup ok 0
    rw [hs, List.append_assoc, List.nodup_append] at hn
    have hm' : a ∈ b :: sub L b := List.mem_cons.2 hm
    have hna : a ∉ pre := fun e => hn.2.2 a e a (List.mem_append_left _ hm') rfl
    have : at_ L a = (b :: sub L b).idxOf a + pre.length := by
      unfold at_
      rw [hs, List.append_assoc, List.idxOf_append, if_neg hna, List.idxOf_append, if_pos hm']
    have h3 := List.idxOf_lt_length_iff.2 hm'
    rw [List.length_cons] at h3
    omega
theorem within_in (ok : TreeOk L n) {a b : Int} (hb : b ∈ sub L 0) (h : a = b ∨ a ∈ sub L b) : at_ L b ≤ at_ L a ∧ at_ L a + (1 + (sub L a).length) ≤ at_ L b + (1 + (sub L b).length) := by
  rcases h with rfl | h
  · omega
  · obtain ⟨pre, post, hs, hb'⟩ := at_block ok hb
    obtain ⟨p, q, hs2⟩ := sub_block ok b a h
    have hn := sub_nodup ok 0
    have hW : sub L 0 = (pre ++ b :: p) ++ (a :: sub L a ++ (q ++ post)) := by
      rw [hs]
      conv => lhs; rw [hs2]
      simp
    rw [hW, List.nodup_append] at hn
    have hna : a ∉ pre ++ b :: p := fun e => hn.2.2 a e a (by simp) rfl
    have : at_ L a = pre.length + 1 + p.length := by
      unfold at_
      rw [hW, List.idxOf_append, if_neg hna]
      simp
      omega
    have hl := congrArg List.length hs2
    simp at hl
    omega
end

/-! ### Put in, taken out -/
def addRow (L : TRows) (k p : Int) : TRows := L.takeWhile (fun x => decide (x.1 < k)) ++ (k, p) :: L.dropWhile (fun x => decide (x.1 < k))
def rmRow (L : TRows) (k : Int) : TRows := L.filter (fun x => decide (x.1 ≠ k))
theorem mem_add {L : TRows} {k p : Int} {x : Int × Int} : x ∈ addRow L k p ↔ x = (k, p) ∨ x ∈ L := by
  unfold addRow
  rw [List.mem_append, List.mem_cons]
  constructor
  · rintro (h | h | h)
    · exact .inr ((List.takeWhile_sublist _).subset h)
    · exact .inl h
    · exact .inr ((List.dropWhile_sublist _).subset h)
  · rintro (h | h)
    · exact .inr (.inl h)
    · rw [← List.takeWhile_append_dropWhile (p := fun x : Int × Int => decide (x.1 < k)) (l := L), List.mem_append] at h
      exact h.elim .inl (fun z => .inr (.inr z))
theorem mem_rm {L : TRows} {k : Int} {x : Int × Int} : x ∈ rmRow L k ↔ x ∈ L ∧ x.1 ≠ k := by unfold rmRow; simp
theorem drop_ge {L : TRows} (h : L.Pairwise (fun x y => x.1 < y.1)) {k : Int} : ∀ x ∈ L.dropWhile (fun x => decide (x.1 < k)), k ≤ x.1 := by
  induction L with
  | nil => simp
  | cons y r ih =>
    obtain ⟨h1, h2⟩ := List.pairwise_cons.1 h
    intro x hx
    rw [List.dropWhile_cons] at hx
    split at hx
    · exact ih h2 x hx
    · rename_i e
      simp at e
      rcases List.mem_cons.1 hx with rfl | hx
      · exact e
      · have := h1 x hx; omega
theorem take_lt {L : TRows} {k : Int} : ∀ x ∈ L.takeWhile (fun x => decide (x.1 < k)), x.1 < k := by
  induction L with
  | nil => simp
  | cons y r ih =>
    intro x hx
    rw [List.takeWhile_cons] at hx
    split at hx
    · rename_i e
      rcases List.mem_cons.1 hx with rfl | hx
      · simpa using e
      · exact ih x hx
    · simp at hx
theorem add_up {L : TRows} (h : L.Pairwise (fun x y => x.1 < y.1)) {k p : Int} (hk : ∀ q, (k, q) ∉ L) : (addRow L k p).Pairwise (fun x y => x.1 < y.1) := by
  unfold addRow
  rw [List.pairwise_append]
  refine ⟨List.Pairwise.sublist (List.takeWhile_sublist _) h, List.pairwise_cons.2 ⟨fun y hy => ?_, List.Pairwise.sublist (List.dropWhile_sublist _) h⟩, fun x hx y hy => ?_⟩
  · have h1 := drop_ge h y hy
    have h2 : y.1 ≠ k := fun e => hk y.2 (by rw [← e]; exact (List.dropWhile_sublist _).subset hy)
    simp only
    omega
  · have h0 := take_lt x hx
    rcases List.mem_cons.1 hy with rfl | hy
    · exact h0
    · have h1 := drop_ge h y hy
      omega
theorem TreeOk.add {L : TRows} {n : Nat} (ok : TreeOk L n) {k p : Int} (h1 : 1 ≤ k) (h2 : k ≤ 9223372036854775807) (hk : ∀ q, (k, q) ∉ L) (hp : p = 0 ∨ ∃ q, (p, q) ∈ L) (hn : n + 1 ≤ 1000) : TreeOk (addRow L k p) (n + 1) := by
  obtain ⟨h, hh, hb⟩ := ok.high
  have hpk : p ≠ k := by
    rintro rfl
    rcases hp with e | ⟨q, hq⟩
    · omega
    · exact hk q hq
  refine ⟨add_up ok.up hk, fun x hx => ?_, ⟨fun q => if q = k then 0 else h q + 1, fun x hx => ?_, fun q => by have := hb q; show (if q = k then 0 else h q + 1) ≤ n + 1; split <;> omega⟩, hn⟩
  · rcases mem_add.1 hx with rfl | hx
    · refine ⟨h1, h2, hp.imp id ?_⟩
      rintro ⟨q, hq⟩; exact ⟨q, mem_add.2 (.inr hq)⟩
    · obtain ⟨g1, g2, g3⟩ := ok.ids x hx
      refine ⟨g1, g2, g3.imp id ?_⟩
      rintro ⟨q, hq⟩; exact ⟨q, mem_add.2 (.inr hq)⟩
  · rcases mem_add.1 hx with rfl | hx
    · simp only [if_pos rfl, if_neg hpk]; simp
    · have e1 : x.1 ≠ k := fun e => hk x.2 (by rw [← e]; exact hx)
      have e2 : x.2 ≠ k := by
        rintro e
        rcases (ok.ids x hx).2.2 with z | ⟨q, hq⟩
        · omega
        · rw [e] at hq; exact hk q hq
      have := hh x hx
      simp only [if_neg e1, if_neg e2]
      omega
theorem TreeOk.rm {L : TRows} {n : Nat} (ok : TreeOk L n) {k : Int} (hk : kids L k = []) : TreeOk (rmRow L k) n := by
  obtain ⟨h, hh, hb⟩ := ok.high
  refine ⟨List.Pairwise.filter _ ok.up, fun x hx => ?_, ⟨h, fun x hx => hh x (mem_rm.1 hx).1, hb⟩, ok.small⟩
  obtain ⟨h1, h2⟩ := mem_rm.1 hx
  obtain ⟨g1, g2, g3⟩ := ok.ids x h1
  refine ⟨g1, g2, g3.imp id ?_⟩
  rintro ⟨q, hq⟩
  refine ⟨q, mem_rm.2 ⟨hq, fun e => ?_⟩⟩
  have : x.1 ∈ kids L k := mem_kids.2 (by rw [← e]; exact h1)
  rw [hk] at this
  cases this
theorem rm_add {L : TRows} (h : L.Pairwise (fun x y => x.1 < y.1)) {k p : Int} (hk : ∀ q, (k, q) ∉ L) : rmRow (addRow L k p) k = L :=
  pairs_eq (List.Pairwise.filter _ (add_up h hk)) h (fun x => by
    rw [mem_rm, mem_add]
    constructor
    · rintro ⟨rfl | h1, h2⟩
      · exact absurd rfl h2
      · exact h1
    · intro hx
      exact ⟨.inr hx, fun e => hk x.2 (by rw [← e]; exact hx)⟩)
theorem add_length (L : TRows) (k p : Int) : (addRow L k p).length = L.length + 1 := by
  unfold addRow
  have := congrArg List.length (List.takeWhile_append_dropWhile (p := fun x : Int × Int => decide (x.1 < k)) (l := L))
  rw [List.length_append] at this
  rw [List.length_append, List.length_cons]
  omega
theorem rm_length (L : TRows) (k : Int) : (rmRow L k).length ≤ L.length := List.length_filter_le _ _

/-! ### What the calls answer -/
def hasB (L : TRows) (k : Int) : Bool := (pget L k).isSome
def tPut (L : TRows) (k p : Int) : TRows × Int := if k < 1 ∨ hasB L k = true then (L, 1) else if p ≠ 0 ∧ hasB L p = false then (L, 2) else (addRow L k p, 0)
def tOut (L : TRows) (k : Int) : TRows × Int := if hasB L k = false then (L, 2) else if kids L k ≠ [] then (L, 6) else (rmRow L k, 0)
theorem hasB_true {L : TRows} (h : L.Pairwise (fun x y => x.1 < y.1)) {k : Int} : hasB L k = true ↔ ∃ p, (k, p) ∈ L := by
  unfold hasB
  cases e : pget L k with
  | none => simp only [Option.isSome_none]; exact ⟨fun z => (by cases z), fun ⟨p, hp⟩ => absurd hp ((pget_none h).1 e p)⟩
  | some p => simp only [Option.isSome_some, true_iff]; exact ⟨p, (pget_some h).1 e⟩
theorem hasB_false {L : TRows} (h : L.Pairwise (fun x y => x.1 < y.1)) {k : Int} : hasB L k = false ↔ ∀ p, (k, p) ∉ L := by
  unfold hasB
  rw [← pget_none h]
  cases pget L k <;> simp
theorem tPut_ok {L : TRows} {n : Nat} (ok : TreeOk L n) (k p : Int) (hk : k ≤ 9223372036854775807) (hn : n + 1 ≤ 1000) : TreeOk (tPut L k p).1 (n + 1) := by
  unfold tPut
  split
  · exact ok.more (by omega) hn
  · rename_i h1
    split
    · exact ok.more (by omega) hn
    · rename_i h2
      have h3 : hasB L k = false := by cases e : hasB L k with
        | true => exact absurd (.inr e) h1
        | false => rfl
      refine ok.add (by omega) hk ((hasB_false ok.up).1 h3) ?_ hn
      by_cases e : p = 0
      · exact .inl e
      · refine .inr ((hasB_true ok.up).1 ?_)
        cases e2 : hasB L p with
        | true => rfl
        | false => exact absurd ⟨e, e2⟩ h2
theorem tOut_ok {L : TRows} {n : Nat} (ok : TreeOk L n) (k : Int) (hn : n + 1 ≤ 1000) : TreeOk (tOut L k).1 (n + 1) := by
  unfold tOut
  split
  · exact ok.more (by omega) hn
  · split
    · exact ok.more (by omega) hn
    · rename_i h; exact (ok.rm (by simpa using h)).more (by omega) hn
theorem tPut_length (L : TRows) (k p : Int) : (tPut L k p).1.length ≤ L.length + 1 := by
  unfold tPut; split
  · simp
  · split
    · simp
    · rw [add_length]; omega
theorem tOut_length (L : TRows) (k : Int) : (tOut L k).1.length ≤ L.length := by
  unfold tOut; split
  · simp
  · split
    · simp
    · exact rm_length _ _
end Go.Proofs.YtinjbonodlkafaaDoor

/- Layer 11 (arena): how many pages an arena has; whether a word stands in them. -/
import Derived.Test.YtpldogmamifdpaaDoorArena7
set_option linter.unusedVariables false
set_option linter.unusedSimpArgs false
namespace Go.Proofs.YtpldogmamifdpaaDoor
open Go Go.RowKit Go.Shelf

attribute [local go_sem] Oper.semAt_some

/-- The runs lie in a store of pages. -/
def Within11 (R : List (Int × Int)) : Prop := R.length ≤ 1000 ∧ (∀ r ∈ R, 0 ≤ r.1 ∧ 0 ≤ r.2 ∧ r.1 + r.2 ≤ 2000)
theorem Within11.many {R : List (Int × Int)} (h : Within11 R) : (pagesOf R).length ≤ 2000000 := by
  rw [pagesOf_length]
  have : ∀ (L : List (Int × Int)), (∀ r ∈ L, 0 ≤ r.1 ∧ 0 ≤ r.2 ∧ r.1 + r.2 ≤ 2000) → (L.map (fun r => r.2.toNat)).sum ≤ 2000 * L.length := by
    intro L
    induction L with
    | nil => intro _; simp
    | cons r L ih =>
      intro hh
      have h1 := ih (fun q hq => hh q (List.mem_cons_of_mem _ hq))
      have h2 := hh r (List.mem_cons_self ..)
      simp only [List.map_cons, List.sum_cons, List.length_cons]
      omega
  have := this R h.2
  have := h.1
  omega

/-- What the iterator reads, out of an arena in memory. -/
theorem ArenaAt.owns {w W : World} {base b : Nat} {fv : Value} {p : Nat} {pg us : Int} {rv tv : Value} {R T : List (Int × Int)} (h : ArenaAt w base b fv p pg us rv tv R T) (hc : Ch No w W) (X : Nat → Prop) (hX : ∀ k, X k → w.heap.size ≤ k) (Bx : Nat) (hBx : ¬ X Bx) (hx : W.cell? ⟨Bx, 0, none⟩ = some (.pointer (some ⟨b, 0, none⟩))) :
    ∃ A C, rv = .slice A R.length C ∧ Owns11 X Bx b A C R W := by
  have hrs := h.runs
  obtain ⟨A, C, rfl, hs⟩ := hrs.sl (fun _ q => q.elim)
  have c2 := hc.cell (cellOf h.head 2 rfl) (fun q => q)
  refine ⟨A, C, rfl, hx, c2, fun i hi => ?_⟩
  obtain ⟨bq, off, e, _, hlt, d0, d1, _, _⟩ := hs.pair_at i hi
  exact ⟨bq, off, e, fun q => by have := hX _ q; omega, hc.cell d0 (fun q => q), hc.cell d1 (fun q => q)⟩

set_option maxRecDepth 100000 in
set_option maxHeartbeats 2000000 in
theorem arena_Pages (w : World) (base b : Nat) (fv : Value) (p : Nat) (pg us : Int) (rv tv : Value) (R T : List (Int × Int)) (h : ArenaAt w base b fv p pg us rv tv R T) (hR : Within11 R) :
    Calls Tryd.prog 12 #[.pointer (some ⟨b, 0, none⟩)] w fun e w' => e = .returned (.int .i64 (pagesOf R).length) ∧ Ch No w w' := by
  have hmany := hR.many
  refine (callsIn_wide (n := 6)).1 ?_
  refine callsIn_of_wp_marks Tryd.func12 rfl trivial ?_ rfl
  simp only [Tryd.ntmps12, List.size_toArray, List.length_cons, List.length_nil, Nat.reduceAdd, Nat.reduceSub, Array.replicate_succ, Array.replicate_zero, List.push_toArray, List.append_toArray, List.nil_append, List.cons_append]
  gi_wp2
  refine ⟨trivial, ?_⟩
  refine (callsIn_wide.2 (arena_owned _ b)).mono ?_
  rintro e w2 ⟨rfl, rfl⟩
  gi_wp2
  obtain ⟨w2, hw2⟩ : ∃ z, (w.alloc (.cells #[.int .i64 0] 3)).alloc (.cells #[.pointer (some ⟨b, 0, none⟩)] 22) = z := ⟨_, rfl⟩
  rw [hw2]
  have hc : Ch No w w2 := by rw [← hw2]; exact ((Ch.refl No w).alloc _).alloc _
  have hs2 : w2.heap.size = w.heap.size + 1 + 1 := by rw [← hw2]; simp
  have kn : w2.heap[w.heap.size]? = some (.cells #[.int .i64 0] 3 (0, 0)) := by rw [← hw2]; exact ((Ch.refl No _).alloc _).heap (World.alloc_heap_new _ _) (fun q => q)
  have kx : w2.cell? ⟨w.heap.size + 1, 0, none⟩ = some (.pointer (some ⟨b, 0, none⟩)) := by
    rw [← hw2]
    have := World.alloc_heap_new (w.alloc (.cells #[.int .i64 0] 3)) (.cells #[.pointer (some ⟨b, 0, none⟩)] 22)
    rw [World.size_alloc] at this
    exact cellOf this 0 rfl
  clear hw2
  obtain ⟨A, C, _, how⟩ := h.owns hc (One w.heap.size) (fun k q => by have : k = w.heap.size := q; omega) (w.heap.size + 1) (fun q => by have : w.heap.size + 1 = w.heap.size := q; omega) kx
  refine wpIn_rangeFunc_ownG rfl (by omega) (gf := 53) (lb := #[.pointer (some ⟨w.heap.size + 1, 0, none⟩)]) rfl trivial (enters_of Tryd.func53 (by kernel_rfl) rfl)
    (owned_stops _ (by omega) (One w.heap.size) (w.heap.size + 1) b A C R w2 how (fun k q => by have : k = w.heap.size := q; omega) hR.2 (by have := hR.1; omega))
    (fun h k => h.trans k) (fun W l o o' hl ho hc hw => Kc.put W l o o' hl ho hc hw) (Below.refl _ _) (fun _ => rfl)
    (fun pre W => W.heap[w.heap.size]? = some (.cells #[.int .i64 (pre.length : Int)] 3 (0, 0)) ∧ Ch (One w.heap.size) w2 W) (fun _ _ _ => False)
    (OwnFrom.and (fun s A B row hs hg hr => grown_cells hg hr hs) (ownFrom_ch (Nat.le_refl _))) (fun _ _ _ _ _ hs _ _ => hs) ⟨kn, Ch.refl _ _⟩
    (fun i => { tmps := #[.pointer (some ⟨b, 0, none⟩), undef, .int .i64 0, .pointer (some ⟨w.heap.size, 0, none⟩), .pointer (some ⟨b, 0, none⟩), .func (.func 53) #[] #[.pointer (some ⟨w.heap.size + 1, 0, none⟩)], .int .i64 i, undef, undef, undef], defers := [] }) ?assign ?body ?done ?stop
  case assign =>
    intro l i W K hK
    gi_wp2
    simpa using hK
  case body =>
    rintro l pre x W ⟨hi, hc2⟩ hlt
    have z0 := cellOf hi 0 rfl
    have f0 := freeOf hi 0
    have hw1 : IntKind.i64.wrap ((pre.length : Int) + 1) = (((pre ++ [x]).length : Nat) : Int) := by rw [IntWalk.i64_in _ (by omega)]; simp
    obtain ⟨m, hm⟩ : ∃ m : Int, m = ((pre ++ [x]).length : Int) := ⟨_, rfl⟩
    rw [← hm] at hw1
    have HM := Lib.hid hm
    clear hm
    gi_wp2
    have hset : Ch (One w.heap.size) W (W.setCell ⟨w.heap.size, 0, none⟩ (.int .i64 m)) := Ch.setIn (F := One w.heap.size) (Ch.refl _ _) (p := ⟨w.heap.size, 0, none⟩) rfl _
    exact ⟨keepsFrom_ch hset (fun k q => by have : k = w.heap.size := q; omega), Kc.ofCh hset (fun _ q => q), by rw [← HM.out]; exact heap_set hi (i := 0) (.int .i64 m), hc2.trans hset⟩
  case done =>
    rintro D ys W hD rfl ⟨hi, hc2⟩ hK
    have z0 := cellOf hi 0 rfl
    gi_wp2
    refine ⟨by simp, .inl ⟨_, _, rfl, run_takeDeferred hK, ?_⟩⟩
    refine ⟨_, results_tmp rfl _ _ _, rfl, ?_⟩
    have h1 : Ch No w W := hc.andThen hc2 (fun k q => .inr (by have : k = w.heap.size := q; omega))
    exact h1.grown (grownBy_putObj' W D (.deferred none)) (fun k e => by cases e; exact .inl (by omega))
  case stop =>
    rintro D c pre W _ _ h _
    exact h.elim

set_option maxRecDepth 100000 in
set_option maxHeartbeats 2000000 in
theorem arena_Has (w : World) (base b : Nat) (fv : Value) (p : Nat) (pg us : Int) (rv tv : Value) (R T : List (Int × Int)) (at_ : Int) (h : ArenaAt w base b fv p pg us rv tv R T) (hR : Within11 R) (hat : I64 at_) :
    Calls Tryd.prog 13 #[.pointer (some ⟨b, 0, none⟩), .int .i64 at_] w fun e w' => e = .returned (.bool (decide (0 ≤ at_ ∧ at_ / 16 ∈ pagesOf R))) ∧ Ch No w w' := by
  refine (callsIn_wide (n := 6)).1 ?_
  refine callsIn_of_wp_marks Tryd.func13 rfl trivial ?_ rfl
  simp only [Tryd.ntmps13, List.size_toArray, List.length_cons, List.length_nil, Nat.reduceAdd, Nat.reduceSub, Array.replicate_succ, Array.replicate_zero, List.push_toArray, List.append_toArray, List.nil_append, List.cons_append]
  gi_wp2
  refine ⟨trivial, ?_⟩
  refine (callsIn_wide.2 (arena_owned _ b)).mono ?_
  rintro e w2 ⟨rfl, rfl⟩
  gi_wp2
  obtain ⟨w2, hw2⟩ : ∃ z, ((w.alloc (.cells #[.int .i64 at_] 3)).alloc (.cells #[.bool false] 4)).alloc (.cells #[.pointer (some ⟨b, 0, none⟩)] 22) = z := ⟨_, rfl⟩
  rw [hw2]
  have hc : Ch No w w2 := by rw [← hw2]; exact (((Ch.refl No w).alloc _).alloc _).alloc _
  have hs2 : w2.heap.size = w.heap.size + 1 + 1 + 1 := by rw [← hw2]; simp
  have kn : w2.heap[w.heap.size + 1]? = some (.cells #[.bool false] 4 (0, 0)) := by
    rw [← hw2]
    have := World.alloc_heap_new (w.alloc (.cells #[.int .i64 at_] 3)) (.cells #[.bool false] 4)
    rw [World.size_alloc] at this
    exact ((Ch.refl No _).alloc _).heap this (fun q => q)
  have ka : w2.cell? ⟨w.heap.size, 0, none⟩ = some (.int .i64 at_) := by
    rw [← hw2]
    exact (((Ch.refl No _).alloc _).alloc _).cell (cellOf (World.alloc_heap_new w (.cells #[.int .i64 at_] 3)) 0 rfl) (fun q => q)
  have kx : w2.cell? ⟨w.heap.size + 1 + 1, 0, none⟩ = some (.pointer (some ⟨b, 0, none⟩)) := by
    rw [← hw2]
    have := World.alloc_heap_new ((w.alloc (.cells #[.int .i64 at_] 3)).alloc (.cells #[.bool false] 4)) (.cells #[.pointer (some ⟨b, 0, none⟩)] 22)
    simp only [World.size_alloc] at this
    exact cellOf this 0 rfl
  clear hw2
  obtain ⟨A, C, _, how⟩ := h.owns hc (One (w.heap.size + 1)) (fun k q => by have : k = w.heap.size + 1 := q; omega) (w.heap.size + 1 + 1) (fun q => by have : w.heap.size + 1 + 1 = w.heap.size + 1 := q; omega) kx
  refine wpIn_rangeFunc_ownG rfl (by omega) (gf := 53) (lb := #[.pointer (some ⟨w.heap.size + 1 + 1, 0, none⟩)]) rfl trivial (enters_of Tryd.func53 (by kernel_rfl) rfl)
    (owned_stops _ (by omega) (One (w.heap.size + 1)) (w.heap.size + 1 + 1) b A C R w2 how (fun k q => by have : k = w.heap.size + 1 := q; omega) hR.2 (by have := hR.1; omega))
    (fun h k => h.trans k) (fun W l o o' hl ho hc hw => Kc.put W l o o' hl ho hc hw) (Below.refl _ _) (fun _ => rfl)
    (fun pre W => ¬ (0 ≤ at_ ∧ at_ / 16 ∈ pre) ∧ Ch No w2 W)
    (fun c pre W => c = .ret ∧ (0 ≤ at_ ∧ at_ / 16 ∈ pre) ∧ W.heap[w.heap.size + 1]? = some (.cells #[.bool true] 4 (0, 0)) ∧ Ch (One (w.heap.size + 1)) w2 W)
    (OwnFrom.and (fun s A B row hs hg hr => hs) (ownFrom_ch (Nat.le_refl _)))
    (fun c => OwnFrom.and (fun s A B row hs hg hr => hs) (OwnFrom.and (fun s A B row hs hg hr => hs) (OwnFrom.and (fun s A B row hs hg hr => grown_cells hg hr hs) (ownFrom_ch (Nat.le_refl _))))) ⟨by simp, Ch.refl _ _⟩
    (fun i => { tmps := #[.pointer (some ⟨b, 0, none⟩), .int .i64 at_, undef, .pointer (some ⟨w.heap.size, 0, none⟩), .pointer (some ⟨w.heap.size + 1, 0, none⟩), .int .i64 i, .pointer (some ⟨b, 0, none⟩), .func (.func 53) #[] #[.pointer (some ⟨w.heap.size + 1 + 1, 0, none⟩)], .int .i64 i, undef, undef, undef, undef, undef, undef, undef, undef], defers := [] }) ?assign ?body ?done ?stop
  case assign =>
    intro l i W K hK
    gi_wp2
    exact hK
  case body =>
    rintro l pre x W ⟨hi, hc2⟩ hlt
    have z0 := hc2.cell ka (fun q => q)
    have z1 := hc2.heap kn (fun q => q)
    have z2 := cellOf z1 0 rfl
    have f2 := freeOf z1 0
    by_cases h0 : 0 ≤ at_
    · obtain ⟨y, hy⟩ : ∃ y, y = at_ / 16 := ⟨_, rfl⟩
      have e1 : at_.tdiv 16 = y := (Int.tdiv_eq_ediv_of_nonneg h0).trans hy.symm
      have h64 : -9223372036854775808 ≤ at_ ∧ at_ ≤ 9223372036854775807 := hat
      have e3 : IntKind.i64.wrap y = y := IntWalk.i64_in _ (by omega)
      have e2 : wrap64 y = y := IntWalk.wrap64_in _ (by omega)
      have e4 : wrap64 (at_ / 16) = y := by rw [← hy]; exact e2
      have HY := Lib.hid hy
      clear hy
      have b0 : decide (0 ≤ at_) = true := decide_eq_true h0
      by_cases hx : x = y
      · have b1 : (x == y) = true := by simp [hx]
        have HX := Lib.hid hx
        clear hx
        gi_wp2
        have hset : Ch (One (w.heap.size + 1)) W (W.setCell ⟨w.heap.size + 1, 0, none⟩ (.bool true)) := Ch.setIn (F := One (w.heap.size + 1)) (Ch.refl _ _) (p := ⟨w.heap.size + 1, 0, none⟩) rfl _
        exact ⟨keepsFrom_ch hset (fun k q => by have : k = w.heap.size + 1 := q; omega), rfl, ⟨h0, by rw [← HY.out, HX.out]; simp⟩, heap_set z1 (i := 0) (.bool true), hc2.ofNo.trans hset⟩
      · have b1 : (x == y) = false := by simp [hx]
        gi_wp2
        exact ⟨KeepsFrom.refl _ _, Kc.refl _ _, fun q => by
          rw [← HY.out] at q hi
          rcases List.mem_append.1 q.2 with q' | q'
          · exact hi ⟨h0, q'⟩
          · exact hx (List.mem_singleton.1 q').symm, hc2⟩
    · have b0 : decide (0 ≤ at_) = false := decide_eq_false h0
      gi_wp2
      exact ⟨KeepsFrom.refl _ _, Kc.refl _ _, fun q => absurd q (by omega), hc2⟩
  case done =>
    rintro D ys W hD rfl ⟨hi, hc2⟩ hK
    have z1 := hc2.heap kn (fun q => q)
    have z0 := cellOf z1 0 rfl
    have f0 := freeOf z1 0
    gi_wp2
    have hB : Ch (One (w.heap.size + 1)) W (W.setCell ⟨w.heap.size + 1, 0, none⟩ (.bool false)) := Ch.setIn (F := One (w.heap.size + 1)) (Ch.refl _ _) (p := ⟨w.heap.size + 1, 0, none⟩) rfl _
    have hK2 := hB.heap hK (fun q => by have : D = w.heap.size + 1 := q; omega)
    have kn2 := heap_set z1 (i := 0) (.bool false)
    refine ⟨by simp, .inl ⟨_, _, rfl, run_takeDeferred hK2, ?_⟩⟩
    have hgr := grownBy_putObj' (W.setCell ⟨w.heap.size + 1, 0, none⟩ (.bool false)) D (.deferred none)
    have kn3 := grown_cells (B := w2.heap.size) hgr (fun r e => by cases e; exact ⟨hD, _, hK2, rfl⟩) kn2
    have z3 := cellOf kn3 0 rfl
    have hd : decide (0 ≤ at_ ∧ at_ / 16 ∈ pagesOf R) = false := decide_eq_false hi
    refine ⟨_, results_cellB (v := .bool false) rfl _ _ _ (by rfl) (by go_simp), by rw [hd], (((hc.trans hc2).setNew (p := ⟨w.heap.size + 1, 0, none⟩) (by simp) _).grown hgr (fun k e => by cases e; exact .inl (by omega)))⟩
  case stop =>
    rintro D c pre W hD hp ⟨rfl, hx, hi, hc2⟩ hK
    have z0 := cellOf hi 0 rfl
    gi_wp2
    refine ⟨by simp, .inl ⟨_, _, rfl, run_takeDeferred hK, ?_⟩⟩
    have hgr := grownBy_putObj' W D (.deferred none)
    have kn3 := grown_cells (B := w2.heap.size) hgr (fun r e => by cases e; exact ⟨hD, _, hK, rfl⟩) hi
    have z3 := cellOf kn3 0 rfl
    have hd : decide (0 ≤ at_ ∧ at_ / 16 ∈ pagesOf R) = true := decide_eq_true ⟨hx.1, hp.subset hx.2⟩
    have h1 : Ch No w W := hc.andThen hc2 (fun k q => .inr (by have : k = w.heap.size + 1 := q; omega))
    refine ⟨_, results_cellB (v := .bool true) rfl _ _ _ (by rfl) (by go_simp), by rw [hd], h1.grown hgr (fun k e => by cases e; exact .inl (by omega))⟩
end Go.Proofs.YtpldogmamifdpaaDoor

/- Layer 9 (starts): Drop. -/
import Derived.Test.YtpldogmamifdpaaStarts3
set_option linter.unusedVariables false
set_option linter.unusedSimpArgs false
namespace Go.Proofs.Ytpldogmamifdpaa
open Go Go.RowKit Go.Shelf

attribute [local go_sem] Oper.semAt_some

theorem not_two {b c k : Nat} (h1 : k ≠ b) (h2 : k ≠ c) : ¬ Two b c k := fun q => q.elim h1 h2
def clearAll (x : List Bool) (l : List Nat) : List Bool := l.foldl (fun x i => x.set i false) x
theorem clearAll_snoc (x : List Bool) (l : List Nat) (i : Nat) : clearAll x (l ++ [i]) = (clearAll x l).set i false := by simp [clearAll]
theorem clearAll_length : ∀ (l : List Nat) (x : List Bool), (clearAll x l).length = x.length
  | [], x => rfl
  | i :: l, x => by
    show (clearAll (x.set i false) l).length = _
    rw [clearAll_length l, List.length_set]
theorem getD_setF (x : List Bool) (i j : Nat) : (x.set i false).getD j false = if j = i then false else x.getD j false := by
  by_cases h : i < x.length
  · exact getD_set x i j false h
  · rw [List.set_eq_of_length_le (by omega)]
    split
    · rename_i e
      subst e
      exact getD_out x j (by omega)
    · rfl
theorem clearAll_get : ∀ (l : List Nat) (x : List Bool) (j : Nat), (clearAll x l).getD j false = if j ∈ l then false else x.getD j false
  | [], x, j => by simp [clearAll]
  | i :: l, x, j => by
    show (clearAll (x.set i false) l).getD j false = _
    rw [clearAll_get l, getD_setF]
    by_cases h1 : j ∈ l
    · simp [h1]
    · by_cases h2 : j = i
      · simp [h2]
      · simp [h1, h2]
theorem mem_inL {x : List Bool} {a b : Int} {i : Nat} : i ∈ inL x a b ↔ i < x.length ∧ x.getD i false = true ∧ 0 ≤ a ∧ 0 ≤ b ∧ a ≤ i ∧ (i : Int) - a < b := by
  unfold inL
  split
  · constructor
    · intro h; simp at h
    · rintro ⟨_, _, h1, h2, _⟩; omega
  · rw [mem_inFrom]
    constructor
    · rintro ⟨h1, h2, h3, h4⟩; exact ⟨h1, h2, by omega, by omega, h3, h4⟩
    · rintro ⟨h1, h2, _, _, h3, h4⟩; exact ⟨h1, h2, h3, h4⟩

set_option maxRecDepth 100000 in
set_option maxHeartbeats 2000000 in
theorem starts_Drop (w : World) (s p g : Nat) (x : List Bool) (a b : Int) (h : StartsAt w s p g x) (ia : I64 a) (ib : I64 b) :
    Calls Try.prog 21 #[.pointer (some ⟨s, 0, none⟩), .agg #[.int .i64 a, .int .i64 b]] w fun e w' => e = .returned (.int .i64 (inL x a b).length) ∧ StartsAt w' s p g (clearAll x (inL x a b)) ∧ Ch (One g) w w' := by
  have hlt1 := h.lt
  have hlt2 := h.row.lt
  have hle := h.row.le
  have hsg := h.sg
  refine (callsIn_wide (n := 6)).1 ?_
  refine callsIn_of_wp_marks Try.func21 rfl trivial ?_ rfl
  simp only [Try.ntmps21, List.size_toArray, List.length_cons, List.length_nil, Nat.reduceAdd, Nat.reduceSub, Array.replicate_succ, Array.replicate_zero, List.push_toArray, List.append_toArray, List.nil_append, List.cons_append]
  gi_wp2
  refine ⟨trivial, ?_⟩
  refine (callsIn_wide.2 (starts_among _ s a b)).mono ?_
  rintro e w' ⟨rfl, rfl⟩
  gi_wp2
  obtain ⟨w3, hw3⟩ : ∃ W, ((w.alloc (.cells #[.pointer (some ⟨s, 0, none⟩)] 40)).alloc (.cells #[.int .i64 a, .int .i64 b] 30)).alloc (.cells #[.int .i64 0] 3) = W := ⟨_, rfl⟩
  rw [hw3]
  have hs3 : w3.heap.size = w.heap.size + 1 + 1 + 1 := by rw [← hw3]; simp
  have hc3 : Ch No w w3 := by rw [← hw3]; exact (((Ch.refl No w).alloc _).alloc _).alloc _
  have b0 : Boxed w3 w.heap.size 40 (.pointer (some ⟨s, 0, none⟩)) := by
    rw [← hw3]
    exact ((Boxed.new w _ _).alloc _).alloc _
  have bn : Boxed w3 (w.heap.size + 1 + 1) 3 (.int .i64 0) := by
    rw [← hw3]
    have := Boxed.new ((w.alloc (.cells #[.pointer (some ⟨s, 0, none⟩)] 40)).alloc (.cells #[.int .i64 a, .int .i64 b] 30)) 3 (.int .i64 0)
    simp only [World.size_alloc] at this
    exact this
  have h3 := h.ch0 hc3
  clear hw3
  obtain ⟨w5, hw5⟩ : ∃ W, (w3.alloc (.cells #[.pointer (some ⟨s, 0, none⟩)] 40)).alloc (.cells #[.int .i64 a, .int .i64 b] 30) = W := ⟨_, rfl⟩
  rw [hw5]
  have hs5 : w5.heap.size = w.heap.size + 1 + 1 + 1 + 1 + 1 := by rw [← hw5]; simp [hs3]
  have hc5 : Ch No w3 w5 := by rw [← hw5]; exact ((Ch.refl No w3).alloc _).alloc _
  have hbr : w5.heap[w.heap.size + 1 + 1 + 1 + 1]? = some (.cells #[.int .i64 a, .int .i64 b] 30 (0, 0)) := by
    rw [← hw5]
    have := World.alloc_heap_new (w3.alloc (.cells #[.pointer (some ⟨s, 0, none⟩)] 40)) (.cells #[.int .i64 a, .int .i64 b] 30)
    simp only [World.size_alloc, hs3] at this
    exact this
  have bs : Boxed w5 (w.heap.size + 1 + 1 + 1) 40 (.pointer (some ⟨s, 0, none⟩)) := by
    rw [← hw5]
    have := Boxed.new w3 40 (.pointer (some ⟨s, 0, none⟩))
    simp only [hs3] at this
    exact this.alloc _
  have b05 : w5.heap[w.heap.size]? = some (.cells #[.pointer (some ⟨s, 0, none⟩)] 40 (0, 0)) := hc5.heap b0 (fun q => q)
  have bn5 : w5.heap[w.heap.size + 1 + 1]? = some (.cells #[.int .i64 0] 3 (0, 0)) := hc5.heap bn (fun q => q)
  have h5 := h3.ch0 hc5
  have hcw : Ch No w w5 := hc3.trans hc5
  have r0 := cellOf hbr 0 rfl
  have r1 := cellOf hbr 1 rfl
  have s0 := bs.cell
  clear hw5 hc3 hc5 hs3 b0 bn h3
  have hlen := inL_le x a b
  have hBg : w.heap.size + 1 + 1 ≠ g := by omega
  have nr : ¬ Two (w.heap.size + 1 + 1) g (w.heap.size + 1 + 1 + 1 + 1) := not_two (by omega) (by omega)
  have ns : ¬ Two (w.heap.size + 1 + 1) g (w.heap.size + 1 + 1 + 1) := not_two (by omega) (by omega)
  have n5 : ¬ Two (w.heap.size + 1 + 1) g s := not_two (by omega) (by omega)
  have n0 : ¬ Two (w.heap.size + 1 + 1) g w.heap.size := not_two (by omega) (by omega)
  have hmk : ∀ (W : World) (Y : List Bool) (y : Nat), RowAt W p g Y → y + 1 ≤ Y.length → Calls Try.prog 13 #[.pointer (some ⟨p, 0, none⟩), .agg #[.int .i64 y, .int .i64 1], .bool false] W fun e w' => e = .returned (.int .i64 0) ∧ RowAt w' p g (Y.set y false) ∧ Ch (One g) W w' := fun W Y y hr hy => bits_Mark W p g Y y 1 false hr hy
  refine wp_seq rfl (by omega) (gf := 63) (lb := #[.pointer (some ⟨w.heap.size + 1 + 1 + 1 + 1, 0, none⟩), .pointer (some ⟨w.heap.size + 1 + 1 + 1, 0, none⟩)]) rfl trivial (enters_of Try.func63 (by kernel_rfl) rfl)
    (among_seq _ s p g _ _ x a b ia ib) (fun _ => rfl)
    (fun pre W => (W.heap[w.heap.size + 1 + 1]? = some (.cells #[.int .i64 pre.length] 3 (0, 0)) ∧ RowAt W p g (clearAll x pre)) ∧ Ch (Two (w.heap.size + 1 + 1) g) w5 W)
    (fun pre W hi => ⟨hi.2.cell r0 nr, hi.2.cell r1 nr, hi.2.cell s0 ns, hi.2.cell h5.cell n5, _, hi.1.2, clearAll_length _ _, fun i hlt => by
      rw [clearAll_get, if_neg (fun hm => by have := hlt i hm; omega)]⟩)
    (OwnFrom.and (fun pre W W' row hs hg hr => ⟨grown_cells hg hr hs.1, hs.2.pg, hs.2.le, grown_cells hg hr hs.2.head, grown_cells hg hr hs.2.row⟩) (ownFrom_ch (Nat.le_refl _)))
    ⟨⟨bn5, h5.row⟩, Ch.refl _ _⟩
    (fun i => { tmps := #[.pointer (some ⟨s, 0, none⟩), .agg #[.int .i64 a, .int .i64 b], .pointer (some ⟨w.heap.size, 0, none⟩), .pointer (some ⟨w.heap.size + 1, 0, none⟩), .int .i64 0, .pointer (some ⟨w.heap.size + 1 + 1, 0, none⟩), .int .i64 i, .pointer (some ⟨s, 0, none⟩), .agg #[.int .i64 a, .int .i64 b], .func (.func 63) #[] #[.pointer (some ⟨w.heap.size + 1 + 1 + 1 + 1, 0, none⟩), .pointer (some ⟨w.heap.size + 1 + 1 + 1, 0, none⟩)], .int .i64 i, undef, undef, undef, undef, undef, undef, undef, undef, undef, undef], defers := [] }) ?assign ?body ?done
  case assign =>
    intro l i W K hK
    gi_wp2
    exact hK
  case body =>
    rintro l pre y rest W hxs hge ⟨⟨hn, hr⟩, hcW⟩
    have hpl : pre.length < 16384 := by
      have := congrArg List.length hxs
      simp at this
      omega
    have hy : y < x.length := (mem_inL.1 (by rw [hxs]; simp : y ∈ inL x a b)).1
    have hm := hmk W _ y hr (by rw [clearAll_length]; omega)
    rw [← clearAll_snoc] at hm
    have d0 := cellOf (hcW.heap b05 n0) 0 rfl
    have d1 := cellOf (hcW.heap h5.head n5) 0 rfl
    have W1 : IntKind.i64.wrap ((pre.length : Int) + 1) = (pre.length : Int) + 1 := IntWalk.i64_in _ (by omega)
    have c2 := cellOf hn 0 rfl
    gi_wp2
    refine ⟨trivial, ?_⟩
    refine (inRound_calls hm).mono ?_
    rintro e W2 ⟨rfl, hr2, hc2⟩
    have hn2 := hc2.heap hn hBg
    have c3 := cellOf hn2 0 rfl
    have f3 := freeOf hn2 0
    gi_wp2
    have hn3 := heap_set hn2 (i := 0) (.int .i64 ((pre.length : Int) + 1))
    refine ⟨(keepsFrom_ch hc2 (fun k hk => by have : k = g := hk; omega)).trans ((KeepsOthers.setCell _ _ _).from _), ⟨by simpa using hn3, hr2.pg, hr2.le, heap_set_ne hr2.head (by omega) _, heap_set_ne hr2.row (fun e => hBg e.symm) _⟩, (hcW.trans (hc2.mono fun k hk => .inr hk)).setIn (p := ⟨w.heap.size + 1 + 1, 0, none⟩) (.inl rfl) _⟩
  case done =>
    rintro D W hD ⟨⟨hn, hr⟩, hcW⟩ hK
    have hc := cellOf hn 0 rfl
    gi_wp2
    refine ⟨by simp, .inl ⟨_, _, rfl, run_takeDeferred hK, ?_⟩⟩
    have hgr := grownBy_putObj' W D (.deferred none)
    have hrr : ∀ r, some D = some r → w5.heap.size ≤ r ∧ ∃ o : Obj, W.heap[r]? = some o ∧ o.isCells = false := fun r e => by cases e; exact ⟨hD, _, hK, rfl⟩
    exact ⟨_, results_tmp rfl _ _ _, rfl, ⟨h5.sp, h5.sg, grown_cells hgr hrr (hcW.heap h5.head n5), h5.row.pg, by rw [clearAll_length]; exact hle, grown_cells hgr hrr hr.head, grown_cells hgr hrr hr.row⟩,
      ((hcw.ofNo (F := One g)).andThen hcW (fun k hk => by
        rcases hk with hk | hk
        · exact .inr (by omega)
        · exact .inl hk)).grown hgr (fun k e => by cases e; exact .inl (by omega))⟩
end Go.Proofs.Ytpldogmamifdpaa

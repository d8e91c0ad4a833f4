/- Layer 9 (starts): In and Drop. -/
import Derived.Test.YtpldogmamifdpaaStarts2
set_option linter.unusedVariables false
set_option linter.unusedSimpArgs false
namespace Go.Proofs.Ytpldogmamifdpaa
open Go Go.RowKit Go.Shelf

attribute [local go_sem] Oper.semAt_some

theorem infoI64 : (Try.prog.info? 3).map (fun i => (i.zero, i.size, i.bytes)) = some (some (.int .i64 0), 1, 8) := by kernel_rfl

theorem inL_le (x : List Bool) (a b : Int) : (inL x a b).length ≤ x.length := by
  unfold inL inFrom
  split
  · simp
  · have := List.length_filter_le (fun i => x.getD i false && decide (a ≤ (i : Int) ∧ (i : Int) - a < b)) (List.range x.length)
    simpa using this

/-- The iterator's own boxes, and the book, as the loop finds them. -/
theorem among_of {w W : World} {s p g Br Bs B : Nat} {x : List Bool} {a b : Int} {pre : List Nat} {F : Nat → Prop} (hc : Ch F w W) (hF : ∀ k, F k → k = B) (h1 : Br ≠ B) (h2 : Bs ≠ B) (h3 : s ≠ B) (h4 : p ≠ B) (h5 : g ≠ B)
    (r0 : w.cell? ⟨Br, 0, none⟩ = some (.int .i64 a)) (r1 : w.cell? ⟨Br, 1, none⟩ = some (.int .i64 b)) (s0 : w.cell? ⟨Bs, 0, none⟩ = some (.pointer (some ⟨s, 0, none⟩))) (hs : StartsAt w s p g x) : Among s p g Br Bs x a b pre W :=
  ⟨hc.cell r0 (fun q => h1 (hF _ q)), hc.cell r1 (fun q => h1 (hF _ q)), hc.cell s0 (fun q => h2 (hF _ q)), hc.cell hs.cell (fun q => h3 (hF _ q)), x, hs.row.ch hc (fun q => h4 (hF _ q)) (fun q => h5 (hF _ q)), rfl, fun _ _ => rfl⟩

set_option maxRecDepth 100000 in
set_option maxHeartbeats 2000000 in
theorem starts_In (w : World) (s p g : Nat) (x : List Bool) (a b : Int) (h : StartsAt w s p g x) (ia : I64 a) (ib : I64 b) :
    Calls Try.prog 20 #[.pointer (some ⟨s, 0, none⟩), .agg #[.int .i64 a, .int .i64 b]] w fun e w' => ∃ v, e = .returned v ∧ OwnR (intRp .i64) w.heap.size 3 No w' v ((inL x a b).map fun i : Nat => (i : Int)) ∧ Ch No w w' := by
  obtain ⟨i0, hi, hz0, hz1, hz2⟩ := info_parts infoI64
  have hlt1 := h.lt
  have hlt2 := h.row.lt
  have hle := h.row.le
  refine (callsIn_wide (n := 6)).1 ?_
  refine callsIn_of_wp_marks Try.func20 rfl trivial ?_ rfl
  simp only [Try.ntmps20, List.size_toArray, List.length_cons, List.length_nil, Nat.reduceAdd, Nat.reduceSub, Array.replicate_succ, Array.replicate_zero, List.push_toArray, List.append_toArray, List.nil_append, List.cons_append]
  gi_wp2
  refine ⟨trivial, ?_⟩
  refine (callsIn_wide.2 (starts_among _ s a b)).mono ?_
  rintro e w' ⟨rfl, rfl⟩
  gi_wp2
  obtain ⟨w4, hw4⟩ : ∃ W, (((w.alloc (.cells #[.int .i64 a, .int .i64 b] 30)).alloc (.cells #[.slice none 0 0] 44)).alloc (.cells #[.pointer (some ⟨s, 0, none⟩)] 40)).alloc (.cells #[.int .i64 a, .int .i64 b] 30) = W := ⟨_, rfl⟩
  rw [hw4]
  have hsz : w4.heap.size = w.heap.size + 1 + 1 + 1 + 1 := by rw [← hw4]; simp
  have hc4 : Ch No w w4 := by rw [← hw4]; exact ((((Ch.refl No w).alloc _).alloc _).alloc _).alloc _
  have bx : Boxed w4 (w.heap.size + 1) 44 (.slice none 0 0) := by
    rw [← hw4]
    have := Boxed.new (w.alloc (.cells #[.int .i64 a, .int .i64 b] 30)) 44 (.slice none 0 0)
    rw [World.size_alloc] at this
    exact (this.alloc _).alloc _
  have hbr : w4.heap[w.heap.size + 1 + 1 + 1]? = some (.cells #[.int .i64 a, .int .i64 b] 30 (0, 0)) := by
    rw [← hw4]
    have := World.alloc_heap_new (((w.alloc (.cells #[.int .i64 a, .int .i64 b] 30)).alloc (.cells #[.slice none 0 0] 44)).alloc (.cells #[.pointer (some ⟨s, 0, none⟩)] 40)) (.cells #[.int .i64 a, .int .i64 b] 30)
    simp only [World.size_alloc] at this
    exact this
  have bs : Boxed w4 (w.heap.size + 1 + 1) 40 (.pointer (some ⟨s, 0, none⟩)) := by
    rw [← hw4]
    have := Boxed.new ((w.alloc (.cells #[.int .i64 a, .int .i64 b] 30)).alloc (.cells #[.slice none 0 0] 44)) 40 (.pointer (some ⟨s, 0, none⟩))
    simp only [World.size_alloc] at this
    exact this.alloc _
  have r0 := cellOf hbr 0 rfl
  have r1 := cellOf hbr 1 rfl
  have s0 := bs.cell
  have h4 := h.ch0 hc4
  clear hw4
  have hlen := inL_le x a b
  refine wp_seq rfl (by omega) (gf := 63) (lb := #[.pointer (some ⟨w.heap.size + 1 + 1 + 1, 0, none⟩), .pointer (some ⟨w.heap.size + 1 + 1, 0, none⟩)]) rfl trivial (enters_of Try.func63 (by kernel_rfl) rfl)
    (among_seq _ s p g _ _ x a b ia ib) (fun _ => rfl)
    (fun pre W => (∃ v, Boxed W (w.heap.size + 1) 44 v ∧ W.ownsRow w4.heap.size 3 1 v pre.length (pre.map fun i : Nat => Value.int .i64 i) ∧ True) ∧ Ch (One (w.heap.size + 1)) w4 W)
    (fun pre W hi => among_of hi.2 (fun k hk => hk) (by omega) (by omega) (by omega) (by omega) (by omega) r0 r1 s0 h4)
    (OwnFrom.and (Own.from (holdsRow_own w4.heap.size (w.heap.size + 1) 44 3 1 (fun pre : List Nat => pre.length) (fun pre => pre.map fun i : Nat => Value.int .i64 i) (fun _ _ => True)) _) (ownFrom_ch (Nat.le_refl _)))
    ⟨⟨_, bx, World.ownsRow_nil _ _ _ _, trivial⟩, Ch.refl _ _⟩
    (fun i => { tmps := #[.pointer (some ⟨s, 0, none⟩), .agg #[.int .i64 a, .int .i64 b], undef, .pointer (some ⟨w.heap.size, 0, none⟩), .slice none 0 0, .pointer (some ⟨w.heap.size + 1, 0, none⟩), .int .i64 i, .pointer (some ⟨s, 0, none⟩), .agg #[.int .i64 a, .int .i64 b], .func (.func 63) #[] #[.pointer (some ⟨w.heap.size + 1 + 1 + 1, 0, none⟩), .pointer (some ⟨w.heap.size + 1 + 1, 0, none⟩)], .int .i64 i, undef, undef, undef, undef, undef], defers := [] }) ?assign ?body ?done
  case assign =>
    intro l i W K hK
    gi_wp2
    exact hK
  case body =>
    rintro l pre y rest W hxs hge ⟨⟨v, hv, hrow, _⟩, hcW⟩
    have hc := hv.cell
    have hpl : pre.length < 16384 := by
      have := congrArg List.length hxs
      simp at this
      omega
    gi_wp2_with (gi_at_builtin; refine wpListIn_append_own _ rfl _ _ 44 rfl w4.heap.size 3 i0 (.int .i64 0) 1 8 Try.underlying44 hi hz0 hz1 hz2 rfl (by decide) _ _ _ rfl (hrow.alloc _) ⟨W.heap.size, 0, none⟩ 1 1 [.int .i64 y] rfl rfl (cell_one_new _ _ _) (by simp [Value.oneCell']) (by unfold maxLen; omega) (by omega) (by simp; omega) ?_; intro v' w1 hown' hgrow _; obtain ⟨g', cap', rfl⟩ := ownsRow_succ hown'; obtain ⟨hv1, hv2, hr2, hk2, _⟩ := hv.appended (by decide) (ownsRow_base hrow (Nat.zero_le _)) (Nat.zero_le _) (Nat.zero_le _) (ownsRow_base hown' (Nat.zero_le _)) hgrow; have hr3 := hown'.kept (grownBy_setCell' w1 (w.heap.size + 1) (.slice (some ⟨g', 0, none⟩) (pre.length + 1) cap')) (.inr (hv1.not_row (by decide) hown').symm); have hc1 := hv1.cell; have hf1 := hv1.frozen)
    refine ⟨hk2.from _, ⟨_, hv2, ?_, trivial⟩, ((hcW.alloc _).grown hgrow (fun k hk => .inl (hrow.lt k hk).1)).setIn (p := ⟨w.heap.size + 1, 0, none⟩) rfl _⟩
    simpa using hr3
  case done =>
    rintro D W hD ⟨⟨v, hv, hrow, _⟩, hcW⟩ hK
    have hc := hv.cell
    gi_wp2
    refine ⟨by simp, .inl ⟨_, _, rfl, run_takeDeferred hK, ?_⟩⟩
    refine ⟨_, results_tmp rfl _ _ _, v, rfl, OwnR.base (base := w4.heap.size) (OwnR.ofInts (n := (inL x a b).length) ?_ (by simp) ?_) (by omega), (hc4.andThen hcW (fun k hk => .inr (by have : k = w.heap.size + 1 := hk; omega))).grown (grownBy_putObj' W D _) (fun k e => by cases e; exact .inl (by omega))⟩
    · rw [List.map_map]
      exact ownsRow_putObj hrow _ hK rfl
    · intro z hz
      obtain ⟨i, hi, rfl⟩ := List.mem_map.1 hz
      have : i < x.length := by
        unfold inL at hi
        split at hi
        · simp at hi
        · exact (mem_inFrom.1 hi).1
      exact (show _ ∧ _ from by omega)
end Go.Proofs.Ytpldogmamifdpaa

/- Layer 11 (arena): an arena without pages: Release, Pages, Has; the chapter's example. -/
import Derived.Test.YtpldogmamifdpaaDoorArena2
set_option linter.unusedVariables false
set_option linter.unusedSimpArgs false
namespace Go.Proofs.YtpldogmamifdpaaDoor
open Go Go.RowKit Go.Shelf

attribute [local go_sem] Oper.semAt_some

theorem four_set {w : World} {B : Nat} {v0 v1 v2 v3 u0 u1 u2 u3 : Value} {T : TypeId} (k0 : w.heap[B]? = some (.cells #[v0, v1, v2, v3] T (0, 0))) : ((((w.setCell ⟨B, 0, none⟩ u0).setCell ⟨B, 1, none⟩ u1).setCell ⟨B, 2, none⟩ u2).setCell ⟨B, 3, none⟩ u3).heap[B]? = some (.cells #[u0, u1, u2, u3] T (0, 0)) :=
  heap_set (heap_set (heap_set (heap_set (i := 0) k0 u0) (i := 1) u1) (i := 2) u2) (i := 3) u3

set_option maxRecDepth 100000 in
/-- Release, of an arena without runs. -/
theorem arena_Release0 (w : World) (base b p : Nat) (pg us : Int) (tv : Value) (T : List (Int × Int)) (A : Option Addr) (C : Nat) (h : ArenaAt w base b (.pointer none) p pg us (.slice A 0 C) tv [] T) (hn : Nw w) (hb : base ≤ w.heap.size) :
    Calls Tryd.prog 11 #[.pointer (some ⟨b, 0, none⟩)] w fun e w' => ∃ p', e = .returned (.int .i64 0) ∧ ArenaAt w' base b (.pointer none) p' (-1) 16 (.slice none 0 0) (.slice none 0 0) [] [] ∧ Ch (One b) w w' := by
  have c0 : w.cell? ⟨b, 0, none⟩ = some (.pointer none) := cellOf h.head 0 rfl
  have c2 : w.cell? ⟨b, 2, none⟩ = some (.slice A 0 C) := cellOf h.head 2 rfl
  have hnw := arena_New w base (.pointer none) hn hb (.inl rfl)
  have hbl := heap_lt h.head
  go_enter Tryd.func11, Tryd.ntmps11
  go_wp2_with fail
  go_loopw [11] (fun v wq => v = .int .i64 0 ∧ w = wq) (fun _ _ => 0)
  case atStart => exact ⟨rfl, rfl⟩
  case round =>
    obtain ⟨rfl, rfl⟩ := hrel
    go_wp2_with fail
    with_reducible refine hnw.mono ?_
    rintro e w1 ⟨b2, p2, rfl, ha2, hb2, hp2, hc1⟩
    have hd := hc1.heap h.head (fun q => q)
    have x0 := cellOf hd 0 rfl
    have x1 := cellOf hd 1 rfl
    have x2 := cellOf hd 2 rfl
    have x3 := cellOf hd 3 rfl
    have f0 := freeOf hd 0
    have f1 := freeOf hd 1
    have f2 := freeOf hd 2
    have f3 := freeOf hd 3
    have y0 := cellOf ha2.head 0 rfl
    have y1 := cellOf ha2.head 1 rfl
    have y2 := cellOf ha2.head 2 rfl
    have y3 := cellOf ha2.head 3 rfl
    dsimp only
    go_wp2_with fail
    go_ret
    have hm := four_set (u0 := .pointer none) (u1 := .pointer (some ⟨p2, 0, none⟩)) (u2 := .slice none 0 0) (u3 := .slice none 0 0) hd
    have hB : Ch (One b) w1 ((((w1.setCell ⟨b, 0, none⟩ (.pointer none)).setCell ⟨b, 1, none⟩ (.pointer (some ⟨p2, 0, none⟩))).setCell ⟨b, 2, none⟩ (.slice none 0 0)).setCell ⟨b, 3, none⟩ (.slice none 0 0)) :=
      Ch.setIn (F := One b) (Ch.setIn (F := One b) (Ch.setIn (F := One b) (Ch.setIn (F := One b) (Ch.refl _ _) (p := ⟨b, 0, none⟩) rfl _) (p := ⟨b, 1, none⟩) rfl _) (p := ⟨b, 2, none⟩) rfl _) (p := ⟨b, 3, none⟩) rfl _
    exact ⟨p2, rfl, ⟨h.hb, ha2.hp, hm, ha2.plan.ch hB (fun q => by have : p2 = b := q; omega), OwnR.nilR _ _ _ _ _, OwnR.nilR _ _ _ _ _, by omega, fun k q => by simp [Value.ownBlock] at q, fun k q => by simp [Value.ownBlock] at q, fun k q => by simp [Value.ownBlock] at q⟩, (hc1.ofNo).trans hB⟩

/-- The iterator over no pages. -/
def None11 (Bx b : Nat) (A : Option Addr) (C : Nat) (_ : List Nat) (W : World) : Prop := W.cell? ⟨Bx, 0, none⟩ = some (.pointer (some ⟨b, 0, none⟩)) ∧ W.cell? ⟨b, 2, none⟩ = some (.slice A 0 C)

set_option maxRecDepth 100000 in
theorem owned_seq0 (n Bx b : Nat) (A : Option Addr) (C : Nat) :
    Seq Fence.wide n Tryd.prog 53 #[.pointer (some ⟨Bx, 0, none⟩)] (fun i : Nat => #[Value.int .i64 (i : Int)]) (None11 Bx b A C) [] := by
  intro l J W hAJ h0 hY
  obtain ⟨r0, r1⟩ := hAJ _ _ h0
  refine callsIn_of_wp Tryd.func53 rfl trivial ?_ rfl
  simp only [Tryd.ntmps53, List.size_toArray, List.length_cons, List.length_nil, Nat.reduceAdd, Nat.reduceSub, Array.replicate_succ, Array.replicate_zero, List.push_toArray, List.append_toArray, List.nil_append, List.cons_append]
  gi_wp2
  gi_loopw [11] (fun v wq => v = .int .i64 0 ∧ W = wq) (fun _ _ => 0)
  case atStart => exact ⟨rfl, rfl⟩
  case round =>
    obtain ⟨rfl, rfl⟩ := hrel
    gi_wp2
    go_end0
    exact ⟨⟨_, rfl⟩, h0⟩

theorem arena_owned (w : World) (b : Nat) :
    Calls Tryd.prog 36 #[.pointer (some ⟨b, 0, none⟩)] w fun e w' =>
      e = .returned (.func (.func 53) #[] #[.pointer (some ⟨w.heap.size, 0, none⟩)]) ∧ w' = w.alloc (.cells #[.pointer (some ⟨b, 0, none⟩)] 22) := by
  go_enter Tryd.func36, Tryd.ntmps36
  go_wp2_with fail
  go_ret
  exact ⟨rfl, rfl⟩

set_option maxRecDepth 100000 in
set_option maxHeartbeats 2000000 in
theorem arena_Pages0 (w : World) (b : Nat) (A : Option Addr) (C : Nat) (hc2 : w.cell? ⟨b, 2, none⟩ = some (.slice A 0 C)) :
    Calls Tryd.prog 12 #[.pointer (some ⟨b, 0, none⟩)] w fun e w' => e = .returned (.int .i64 0) ∧ Ch No w w' := by
  refine (callsIn_wide (n := 6)).1 ?_
  refine callsIn_of_wp_marks Tryd.func12 rfl trivial ?_ rfl
  simp only [Tryd.ntmps12, List.size_toArray, List.length_cons, List.length_nil, Nat.reduceAdd, Nat.reduceSub, Array.replicate_succ, Array.replicate_zero, List.push_toArray, List.append_toArray, List.nil_append, List.cons_append]
  gi_wp2
  refine ⟨trivial, ?_⟩
  refine (callsIn_wide.2 (arena_owned _ b)).mono ?_
  rintro e w2 ⟨rfl, rfl⟩
  gi_wp2
  obtain ⟨w2, hw2⟩ : ∃ z, (w.alloc (.cells #[.int .i64 0] 3)).alloc (.cells #[.pointer (some ⟨b, 0, none⟩)] 22) = z := ⟨_, rfl⟩
  rw [hw2]
  have hc : Ch No w w2 := by rw [← hw2]; exact ((Ch.refl No w).alloc _).alloc _
  have hs2 : w2.heap.size = w.heap.size + 1 + 1 := by rw [← hw2]; simp
  have kn : w2.heap[w.heap.size]? = some (.cells #[.int .i64 0] 3 (0, 0)) := by rw [← hw2]; exact ((Ch.refl No _).alloc _).heap (World.alloc_heap_new _ _) (fun q => q)
  have kx : w2.cell? ⟨w.heap.size + 1, 0, none⟩ = some (.pointer (some ⟨b, 0, none⟩)) := by
    rw [← hw2]
    have := World.alloc_heap_new (w.alloc (.cells #[.int .i64 0] 3)) (.cells #[.pointer (some ⟨b, 0, none⟩)] 22)
    rw [World.size_alloc] at this
    exact cellOf this 0 rfl
  have kb := hc.cell hc2 (fun q => q)
  clear hw2
  refine wp_seq rfl (by omega) (gf := 53) (lb := #[.pointer (some ⟨w.heap.size + 1, 0, none⟩)]) rfl trivial (enters_of Tryd.func53 (by kernel_rfl) rfl)
    (owned_seq0 _ (w.heap.size + 1) b A C) (fun _ => rfl)
    (fun pre W => Ch No w2 W)
    (fun pre W hi => ⟨hi.cell kx (fun q => q), hi.cell kb (fun q => q)⟩)
    (ownFrom_ch (Nat.le_refl _)) (Ch.refl _ _)
    (fun i => { tmps := #[.pointer (some ⟨b, 0, none⟩), undef, .int .i64 0, .pointer (some ⟨w.heap.size, 0, none⟩), .pointer (some ⟨b, 0, none⟩), .func (.func 53) #[] #[.pointer (some ⟨w.heap.size + 1, 0, none⟩)], .int .i64 i, undef, undef, undef], defers := [] }) ?assign ?body ?done
  case assign =>
    intro l i W K hK
    gi_wp2
    simpa using hK
  case body =>
    rintro l pre x rest W hx
    exact absurd hx (by simp)
  case done =>
    rintro D W hD hi hK
    have kn' := hi.heap kn (fun q => q)
    have z0 := cellOf kn' 0 rfl
    gi_wp2
    refine ⟨by simp, .inl ⟨_, _, rfl, run_takeDeferred hK, ?_⟩⟩
    exact ⟨_, results_tmp rfl _ _ _, rfl, (hc.trans hi).grown (grownBy_putObj' W D (.deferred none)) (fun k e => by cases e; exact .inl (by omega))⟩

theorem results_cellB {fn : Func} {c : Tmp} {T : TypeId} (h : fn.results = #[.cell c T]) (tmps : Array Value) (P : Program) (w : World) {a : Addr} {v : Value} (hc : tmps.getD c undef = .pointer (some a)) (hl : (loadVar T a).run P w = .ok v w) :
    (results fn tmps).run P w = .ok v w := by
  have hc' : tmps[c]?.getD undef = .pointer (some a) := by rw [← Array.getD_eq_getD_getElem?]; exact hc
  simp [results, h, hc', asAddr, hl]

set_option maxRecDepth 100000 in
set_option maxHeartbeats 2000000 in
theorem arena_Has0 (w : World) (b : Nat) (A : Option Addr) (C : Nat) (at_ : Int) (hc2 : w.cell? ⟨b, 2, none⟩ = some (.slice A 0 C)) :
    Calls Tryd.prog 13 #[.pointer (some ⟨b, 0, none⟩), .int .i64 at_] w fun e w' => e = .returned (.bool false) ∧ Ch No w w' := by
  refine (callsIn_wide (n := 6)).1 ?_
  refine callsIn_of_wp_marks Tryd.func13 rfl trivial ?_ rfl
  simp only [Tryd.ntmps13, List.size_toArray, List.length_cons, List.length_nil, Nat.reduceAdd, Nat.reduceSub, Array.replicate_succ, Array.replicate_zero, List.push_toArray, List.append_toArray, List.nil_append, List.cons_append]
  gi_wp2
  refine ⟨trivial, ?_⟩
  refine (callsIn_wide.2 (arena_owned _ b)).mono ?_
  rintro e w2 ⟨rfl, rfl⟩
  gi_wp2
  obtain ⟨w2, hw2⟩ : ∃ z, ((w.alloc (.cells #[.int .i64 at_] 3)).alloc (.cells #[.bool false] 4)).alloc (.cells #[.pointer (some ⟨b, 0, none⟩)] 22) = z := ⟨_, rfl⟩
  rw [hw2]
  have hc : Ch No w w2 := by rw [← hw2]; exact (((Ch.refl No w).alloc _).alloc _).alloc _
  have hs2 : w2.heap.size = w.heap.size + 1 + 1 + 1 := by rw [← hw2]; simp
  have kn : w2.heap[w.heap.size + 1]? = some (.cells #[.bool false] 4 (0, 0)) := by
    rw [← hw2]
    have := World.alloc_heap_new (w.alloc (.cells #[.int .i64 at_] 3)) (.cells #[.bool false] 4)
    rw [World.size_alloc] at this
    exact ((Ch.refl No _).alloc _).heap this (fun q => q)
  have kx : w2.cell? ⟨w.heap.size + 1 + 1, 0, none⟩ = some (.pointer (some ⟨b, 0, none⟩)) := by
    rw [← hw2]
    have := World.alloc_heap_new ((w.alloc (.cells #[.int .i64 at_] 3)).alloc (.cells #[.bool false] 4)) (.cells #[.pointer (some ⟨b, 0, none⟩)] 22)
    simp only [World.size_alloc] at this
    exact cellOf this 0 rfl
  have kb := hc.cell hc2 (fun q => q)
  clear hw2
  refine wp_seq rfl (by omega) (gf := 53) (lb := #[.pointer (some ⟨w.heap.size + 1 + 1, 0, none⟩)]) rfl trivial (enters_of Tryd.func53 (by kernel_rfl) rfl)
    (owned_seq0 _ (w.heap.size + 1 + 1) b A C) (fun _ => rfl)
    (fun pre W => Ch No w2 W)
    (fun pre W hi => ⟨hi.cell kx (fun q => q), hi.cell kb (fun q => q)⟩)
    (ownFrom_ch (Nat.le_refl _)) (Ch.refl _ _)
    (fun i => { tmps := #[.pointer (some ⟨b, 0, none⟩), .int .i64 at_, undef, .pointer (some ⟨w.heap.size, 0, none⟩), .pointer (some ⟨w.heap.size + 1, 0, none⟩), .int .i64 i, .pointer (some ⟨b, 0, none⟩), .func (.func 53) #[] #[.pointer (some ⟨w.heap.size + 1 + 1, 0, none⟩)], .int .i64 i, undef, undef, undef, undef, undef, undef, undef, undef], defers := [] }) ?assign ?body ?done
  case assign =>
    intro l i W K hK
    gi_wp2
    exact hK
  case body =>
    rintro l pre x rest W hx
    exact absurd hx (by simp)
  case done =>
    rintro D W hD hi hK
    have kn' := hi.heap kn (fun q => q)
    have z0 := cellOf kn' 0 rfl
    have f0 := freeOf kn' 0
    gi_wp2
    have hB : Ch (One (w.heap.size + 1)) W (W.setCell ⟨w.heap.size + 1, 0, none⟩ (.bool false)) := Ch.setIn (F := One (w.heap.size + 1)) (Ch.refl _ _) (p := ⟨w.heap.size + 1, 0, none⟩) rfl _
    have hK2 := hB.heap hK (fun q => by have : D = w.heap.size + 1 := q; omega)
    have kn2 := heap_set kn' (i := 0) (.bool false)
    refine ⟨by simp, .inl ⟨_, _, rfl, run_takeDeferred hK2, ?_⟩⟩
    have hgr := grownBy_putObj' (W.setCell ⟨w.heap.size + 1, 0, none⟩ (.bool false)) D (.deferred none)
    have kn3 := grown_cells (B := w2.heap.size) hgr (fun r e => by cases e; exact ⟨hD, _, hK2, rfl⟩) kn2
    have z3 := cellOf kn3 0 rfl
    refine ⟨_, results_cellB (v := .bool false) rfl _ _ _ (by rfl) (by go_simp), rfl, (((hc.trans hi).setNew (p := ⟨w.heap.size + 1, 0, none⟩) (by simp) _).grown hgr (fun k e => by cases e; exact .inl (by omega)))⟩
end Go.Proofs.YtpldogmamifdpaaDoor

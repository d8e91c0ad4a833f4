/- Layer 5 (tree): Interval, Within. -/
import Derived.Test.YtinjbonodlkafaaDoorTreeInt
import Derived.Test.YtinjbonodlkafaaDoorTail
set_option linter.unusedVariables false
set_option linter.unusedSimpArgs false
namespace Go.Proofs.YtinjbonodlkafaaDoor
open Go Go.RowKit Go.Shelf

attribute [local go_sem] Oper.semAt_some

def onlyN (K : Act → World → Prop) : Exit → Act → World → Prop
  | .normal, a, w => K a w
  | _, _, _ => False
theorem wpIn_onlyN {F : Fence} {n : Nat} {P : Program} {c : Code} {Q : Exit → Act → World → Prop} {a : Act} {w : World} (h : c.wpIn F n P (onlyN (Q .normal)) a w) : c.wpIn F n P Q a w :=
  wpIn_mono h (by
    rintro e a' w' hh
    cases e with
    | normal => exact hh
    | _ => exact hh.elim)

theorem results_cell2T {fn : Func} {c u : Tmp} {T : TypeId} (h : fn.results = #[.cell c T, .tmp u]) (tmps : Array Value) (P : Program) (w : World) {a : Addr} {v : Value} (hc : tmps.getD c undef = .pointer (some a)) (hl : (loadVar T a).run P w = .ok v w) :
    (results fn tmps).run P w = .ok (.tuple #[v, tmps.getD u undef]) w := by
  have hc' : tmps[c]?.getD undef = .pointer (some a) := by rw [← Array.getD_eq_getD_getElem?]; exact hc
  simp [results, h, hc', asAddr, hl]

theorem tree_Interval_no (w : World) (t m : Nat) (L : TRows) (id : Int) (h : TreeAt w t m L) (hno : hasB L id = false) :
    Calls Tryd.prog 30 #[.pointer (some ⟨t, 0, none⟩), .int .i64 id] w fun e w' => e = .returned (.tuple #[.agg #[.int .i64 0, .int .i64 0], .bool false]) ∧ Ch No w w' := by
  obtain ⟨w1, hw1⟩ : ∃ z, z = w.alloc (.cells #[.int .i64 0, .int .i64 0] 70) := ⟨_, rfl⟩
  have hc1 : Ch No w w1 := by rw [hw1]; exact (Ch.refl _ _).alloc _
  have k1 : w1.heap[w.heap.size]? = some (.cells #[.int .i64 0, .int .i64 0] 70 (0, 0)) := by rw [hw1]; exact World.alloc_heap_new _ _
  have hh := tree_Has w1 t m L id (h.ch0 hc1)
  rw [hno] at hh
  have HW := Lib.hid hw1
  obtain ⟨R, hR⟩ : ∃ z, z = w.heap.size := ⟨_, rfl⟩
  rw [← hR] at k1
  have HR := Lib.hid hR
  have hRs : R < w1.heap.size := heap_lt k1
  clear hw1 hR
  refine (callsIn_wide (n := 7)).1 ?_
  refine callsIn_of_wp_marks Tryd.func30 rfl trivial ?_ rfl
  simp only [Tryd.ntmps30, List.size_toArray, List.length_cons, List.length_nil, Nat.reduceAdd, Nat.reduceSub, Array.replicate_succ, Array.replicate_zero, List.push_toArray, List.append_toArray, List.nil_append, List.cons_append]
  gi_wp2
  refine ⟨trivial, ?_⟩
  rw [← HW.out, ← HR.out]
  refine (callsIn_wide.2 hh).mono ?_
  rintro e w2 ⟨rfl, rfl⟩
  have c0 := cellOf k1 0 rfl
  have c1 := cellOf k1 1 rfl
  have f0 := freeOf k1 0
  have f1 := freeOf k1 1
  gi_wp2
  have hS := heap_set (i := 1) (heap_set (i := 0) k1 (.int .i64 0)) (.int .i64 0)
  have s0 := cellOf hS 0 rfl
  have s1 := cellOf hS 1 rfl
  refine ⟨_, results_cell2T (v := .agg #[.int .i64 0, .int .i64 0]) rfl _ _ _ (by rfl) (by go_simp), rfl, ?_⟩
  exact (hc1.setNew (p := ⟨R, 0, none⟩) (by have := HR.out; show w.heap.size ≤ R; omega) _).setNew (p := ⟨R, 1, none⟩) (by have := HR.out; show w.heap.size ≤ R; omega) _

theorem tree_Interval (w : World) (t m n : Nat) (L : TRows) (id : Int) (h : TreeAt w t m L) (ok : TreeOk L n) (hl : L.length ≤ 100000) (hyes : hasB L id = true) :
    Calls Tryd.prog 30 #[.pointer (some ⟨t, 0, none⟩), .int .i64 id] w fun e w' => e = .returned (.tuple #[.agg #[.int .i64 (at_ L id : Nat), .int .i64 ((1 + (sub L id).length : Nat) : Int)], .bool true]) ∧ Ch No w w' := by
  obtain ⟨w1, hw1⟩ : ∃ z, z = w.alloc (.cells #[.int .i64 0, .int .i64 0] 70) := ⟨_, rfl⟩
  have hc1 : Ch No w w1 := by rw [hw1]; exact (Ch.refl _ _).alloc _
  have k1 : w1.heap[w.heap.size]? = some (.cells #[.int .i64 0, .int .i64 0] 70 (0, 0)) := by rw [hw1]; exact World.alloc_heap_new _ _
  have h1 := h.ch0 hc1
  have hh := tree_Has w1 t m L id h1
  rw [hyes] at hh
  have HW := Lib.hid hw1
  obtain ⟨R, hR⟩ : ∃ z, z = w.heap.size := ⟨_, rfl⟩
  rw [← hR] at k1
  have HR := Lib.hid hR
  have hRs : R < w1.heap.size := heap_lt k1
  obtain ⟨C, hC⟩ : ∃ z, z = w1.heap.size := ⟨_, rfl⟩
  obtain ⟨w2, hw2⟩ : ∃ z, z = w1.alloc (.cells #[.int .i64 1] 3) := ⟨_, rfl⟩
  have hc2 : Ch No w1 w2 := by rw [hw2]; exact (Ch.refl _ _).alloc _
  have k2 : w2.heap[C]? = some (.cells #[.int .i64 1] 3 (0, 0)) := by rw [hw2, hC]; exact World.alloc_heap_new _ _
  have hsz2 : w2.heap.size = C + 1 := by rw [hw2, hC]; simp
  have h2 := h1.ch0 hc2
  have kR2 := hc2.heap k1 (fun q => q)
  have hwk := tree_walk w2 t id
  obtain ⟨w4, hw4⟩ : ∃ z, z = (w2.alloc (.cells #[.pointer (some ⟨t, 0, none⟩)] 24)).alloc (.cells #[.int .i64 id] 3) := ⟨_, rfl⟩
  have hA4 : WalkA t m L w2.heap.size (w2.heap.size + 1) id w4 := by rw [hw4]; exact WalkA.new h2
  have hc4 : Ch No w2 w4 := by rw [hw4]; exact ((Ch.refl _ _).alloc _).alloc _
  rw [← hw4] at hwk
  have hseq := walk_seq t m n L ok hl id w2.heap.size (w2.heap.size + 1)
  obtain ⟨D0, hD0⟩ : ∃ z, z = w2.heap.size := ⟨_, rfl⟩
  have hDC : D0 = C + 1 := by omega
  have hCw : w.heap.size + 1 ≤ C := by rw [hC, hw1]; simp
  have hlt := h.lt
  have hne : ¬ One C t ∧ ¬ One C m ∧ ¬ One C D0 ∧ ¬ One C (D0 + 1) ∧ ¬ One C R := ⟨fun q => by have : t = C := q; omega, fun q => by have : m = C := q; omega, fun q => by have : D0 = C := q; omega, fun q => by have : D0 + 1 = C := q; omega, fun q => by have : R = C := q; omega⟩
  rw [← hD0] at hA4 hwk hseq
  have HC := Lib.hid hC
  have HW2 := Lib.hid hw2
  have hCw2 : w.heap.size ≤ C := by omega
  have hDw : w.heap.size ≤ D0 := by omega
  clear hw1 hR hw2 hw4 hC hD0 hDC hsz2 hlt hCw hRs
  refine (callsIn_wide (n := 7)).1 ?_
  refine callsIn_of_wp_marks Tryd.func30 rfl trivial ?_ rfl
  simp only [Tryd.ntmps30, List.size_toArray, List.length_cons, List.length_nil, Nat.reduceAdd, Nat.reduceSub, Array.replicate_succ, Array.replicate_zero, List.push_toArray, List.append_toArray, List.nil_append, List.cons_append]
  gi_wp2
  refine ⟨trivial, ?_⟩
  rw [← HW.out, ← HR.out]
  refine (callsIn_wide.2 hh).mono ?_
  rintro e w2' ⟨rfl, rfl⟩
  gi_wp2
  rw [← HC.out, ← HW2.out]
  refine ⟨trivial, ?_⟩
  refine (callsIn_wide.2 hwk).mono ?_
  rintro e w4' ⟨rfl, rfl⟩
  gi_wp2
  refine wp_seqR (by omega) (gf := 34) (lb := #[.pointer (some ⟨D0, 0, none⟩), .pointer (some ⟨D0 + 1, 0, none⟩)]) rfl (enters_of Tryd.func34 (by kernel_rfl) rfl)
    hseq (fun _ => rfl)
    (fun pre W => Boxed W C 3 (.int .i64 ((1 + pre.length : Nat) : Int)) ∧ Ch (One C) w4' W) (fun _ k => k = C)
    ?foot ?keep ⟨hc4.heap k2 (fun q => q), Ch.refl _ _⟩
    (fun x => { tmps := #[.pointer (some ⟨t, 0, none⟩), .int .i64 id, undef, undef, .pointer (some ⟨R, 0, none⟩), .bool false, .pointer (some ⟨C, 0, none⟩), .pointer (some ⟨t, 0, none⟩), .int .i64 id, .bool true, .bool false, undef, .pointer (some ⟨t, 0, none⟩), .int .i64 id, .func (.func 34) #[] #[.pointer (some ⟨D0, 0, none⟩), .pointer (some ⟨D0 + 1, 0, none⟩)], .int .i64 x, undef, undef, undef, undef, undef, undef, undef, undef], defers := [] }) ?assign ?body ?done
  case foot =>
    refine ⟨?_, ?_, ?_⟩
    · rintro pre W W' row ⟨hb, hc⟩ hg hr
      refine ⟨hb.kept hg (fun e => ?_), hc.grown hg (fun k e => .inl (hr k e).1)⟩
      obtain ⟨_, o, ho, hcs⟩ := hr C e.symm
      rw [show W.heap[C]? = _ from hb] at ho
      cases ho
      cases hcs
    · rintro pre W k ⟨hb, hc⟩ rfl
      exact heap_lt hb
    · rintro pre W W' row ⟨hb, hc⟩ hg hr k hk
      exact hk
  case keep =>
    rintro pre W ⟨hb, hc⟩
    exact ⟨hA4.tree.ch hc hne.1 hne.2.1, hc.cell hA4.b1 hne.2.2.1, hc.cell hA4.b2 hne.2.2.2.1⟩
  case assign =>
    intro l x W K hK
    gi_wp2
    simpa using hK
  case body =>
    rintro l pre x rest W hxs hge ⟨hb, hc⟩
    have hbc := hb.cell
    have hbf := hb.frozen
    have hpl : pre.length < 100000 := by
      have := congrArg List.length hxs
      have := subT_length ok id
      simp at *
      omega
    have e1 : IntKind.i64.wrap (((1 + pre.length : Nat) : Int) + 1) = ((1 + (pre ++ [x]).length : Nat) : Int) := by rw [IntWalk.i64_in _ (by omega), List.length_append, List.length_singleton]; omega
    obtain ⟨N0, hN0⟩ : ∃ z, z = ((1 + pre.length : Nat) : Int) := ⟨_, rfl⟩
    obtain ⟨N1, hN1⟩ : ∃ z, z = ((1 + (pre ++ [x]).length : Nat) : Int) := ⟨_, rfl⟩
    rw [← hN0] at hbc hb
    rw [← hN0, ← hN1] at e1
    have HN1 := Lib.hid hN1
    clear hN0 hN1
    gi_wp2
    refine ⟨KeepsBut.ch (F := One C) (Ch.setIn (F := One C) (Ch.refl _ _) (p := ⟨C, 0, none⟩) rfl _) (fun k e => e) (fun k e => .inl e), ?_, hc.setIn (p := ⟨C, 0, none⟩) rfl _⟩
    rw [← HN1.out]
    exact hb.set _
  case done =>
    rintro D W hD ⟨hb, hc⟩ hK hS
    have hbc := hb.cell
    have hTW := hA4.tree.ch hc hne.1 hne.2.1
    have kRW := hc.heap (hc4.heap kR2 (fun q => q)) hne.2.2.2.2
    have hmem : id ∈ sub L 0 := (mem_walk ok).2 ((hasB_true ok.up).1 hyes)
    obtain ⟨N2, hN2⟩ : ∃ z, z = ((1 + (sub L id).length : Nat) : Int) := ⟨_, rfl⟩
    rw [← hN2] at hbc hb
    obtain ⟨wd, hwd⟩ : ∃ z, z = W.drew := ⟨_, rfl⟩
    have hcd : Ch No W wd := by rw [hwd]; exact (Ch.refl _ _).drew
    have KS : ∀ W', Ch No wd W' → W'.cell? ⟨C, 0, none⟩ = some (.int .i64 N2) := fun W' h' => (hcd.trans h').cell hbc (fun q => q)
    have hwalk := tree_Walk No wd t m n L (hTW.ch0 hcd) ok hl (fun _ z => z.elim)
    have hidx := fun (w6 : World) q c (h6 : SlR (intRp .i64) No w6 q c (sub L 0)) => slices_Index No w6 q c (sub L 0) id h6 hmem (Nat.le_trans (subT_length ok 0) hl)
    have kRd := hcd.heap kRW (fun q => q)
    rw [show ((sub L 0).idxOf id) = at_ L id from rfl] at hidx
    obtain ⟨P0, hP0⟩ : ∃ z, z = ((at_ L id : Nat) : Int) := ⟨_, rfl⟩
    simp only [← hP0] at hidx
    obtain ⟨W0, hW0⟩ : ∃ z, z = sub L 0 := ⟨_, rfl⟩
    simp only [← hW0] at hidx hwalk
    have HRw := Lib.hid (show w.heap.size ≤ R from by have := HR.out; omega)
    have HN2 := Lib.hid hN2
    have HP0 := Lib.hid hP0
    clear hN2 hP0 hW0 hmem hA4 hTW kRW hseq hwk hh
    gi_wp2
    refine wpIn_onlyN ?_
    refine wpIn_wide.2 ?_
    refine wp_region_tailH (S := (fun w' : World => w'.cell? ⟨C, 0, none⟩ = some (.int .i64 N2))) 6 (by kernel_rfl) (by decide) (by rw [← hwd]; exact KS _ (Ch.refl _ _)) (fun hHeld => ?_)
    rw [← hwd] at hHeld ⊢
    have HWD := Lib.hid hwd
    clear hwd
    refine wpAnyT_take (i := 0) (v := ?_) (by simp only [List.getElem?_toArray, List.getElem?_cons_zero, List.getElem?_cons_succ]; exact rfl) (by kernel_rfl) (by kernel_rfl) (by kernel_rfl) (by kernel_rfl) (by intro _ _ _ h; exact h) (Or.inl ⟨by rfl, ?_⟩) (by assumption) ?_
    rotate_left
    · intro w hSw
      (try dsimp only at hSw)
      go_simp
      try (with_reducible rfl)
    try simp only [Act.put, List.setIfInBounds_toArray, List.set_cons_zero, List.set_cons_succ]
    refine wpAnyT_take (i := 2) (v := ?_) (by simp only [List.getElem?_toArray, List.getElem?_cons_zero, List.getElem?_cons_succ]; exact rfl) (by kernel_rfl) (by kernel_rfl) (by kernel_rfl) (by kernel_rfl) (by intro _ _ _ h; exact h) (Or.inl ⟨by rfl, ?_⟩) (by assumption) ?_
    rotate_left
    · intro w hSw
      (try dsimp only at hSw)
      go_simp
      try (with_reducible rfl)
    try simp only [Act.put, List.setIfInBounds_toArray, List.set_cons_zero, List.set_cons_succ]
    refine wpAnyT_take (i := 4) (v := ?_) (by simp only [List.getElem?_toArray, List.getElem?_cons_zero, List.getElem?_cons_succ]; exact rfl) (by kernel_rfl) (by kernel_rfl) (by kernel_rfl) (by kernel_rfl) (by intro _ _ _ h; exact h) (Or.inl ⟨by rfl, ?_⟩) (by assumption) ?_
    rotate_left
    · intro w hSw
      (try dsimp only at hSw)
      go_simp
      try (with_reducible rfl)
    try simp only [Act.put, List.setIfInBounds_toArray, List.set_cons_zero, List.set_cons_succ]
    refine wpAnyT_ready (rs := [1]) (by kernel_rfl) (by kernel_rfl) ?_
    refine AllReadyT.cons (by simp only [List.getElem?_toArray, List.getElem?_cons_zero, List.getElem?_cons_succ]; exact rfl) (fun K hK => ?_) AllReadyT.nil
    go_simp
    go_at_call 8
    (with_reducible refine hwalk.mono ?_)
    rintro e w6 ⟨q6, c6, rfl, hs6, hc6⟩
    (try dsimp only)
    try go_wp2_with fail
    refine hK.out _ _ (KS _ hc6) (fun hHeld => ?_)
    clear hK K
    try simp only [Act.put, List.setIfInBounds_toArray, List.set_cons_zero, List.set_cons_succ]
    refine wpAnyT_ready (rs := [3]) (by kernel_rfl) (by kernel_rfl) ?_
    refine AllReadyT.cons (by simp only [List.getElem?_toArray, List.getElem?_cons_zero, List.getElem?_cons_succ]; exact rfl) (fun K hK => ?_) AllReadyT.nil
    go_simp
    go_at_call 42
    (with_reducible refine (hidx w6 q6 c6 hs6).mono ?_)
    rintro e w7 ⟨rfl, rfl⟩
    (try dsimp only)
    try go_wp2_with fail
    refine hK.out _ _ (KS _ hc6) (fun hHeld => ?_)
    clear hK K
    try simp only [Act.put, List.setIfInBounds_toArray, List.set_cons_zero, List.set_cons_succ]
    refine wpAnyT_take (i := 5) (v := ?_) (by simp only [List.getElem?_toArray, List.getElem?_cons_zero, List.getElem?_cons_succ]; exact rfl) (by kernel_rfl) (by kernel_rfl) (by kernel_rfl) (by kernel_rfl) (by intro _ _ _ h; exact h) (Or.inl ⟨by rfl, ?_⟩) (by assumption) ?_
    rotate_left
    · intro w hSw
      (try dsimp only at hSw)
      go_simp
      try (with_reducible rfl)
    try simp only [Act.put, List.setIfInBounds_toArray, List.set_cons_zero, List.set_cons_succ]
    refine wpAnyT_tail (by kernel_rfl) ?_
    have kR6 := hc6.heap kRd (fun q => q)
    have z0 := cellOf kR6 0 rfl
    have z1 := cellOf kR6 1 rfl
    have y0 := freeOf kR6 0
    have y1 := freeOf kR6 1
    go_wp2_with fail
    dsimp only [onlyN]
    gi_wp2
    have hDR : D ≠ R := fun e => by have := heap_lt (hc4.heap kR2 (fun q => q)); omega
    have hKd := heap_set_ne (i := 1) (heap_set_ne (i := 0) ((hcd.trans hc6).heap hK (fun q => q)) hDR (.int .i64 P0)) hDR (.int .i64 N2)
    have hS2 := heap_set (i := 1) (heap_set (i := 0) kR6 (.int .i64 P0)) (.int .i64 N2)
    refine ⟨by simp, .inl ⟨D, _, rfl, run_takeDeferred hKd, ?_⟩⟩
    have hS3 := (World.putObj_heap_other (w := (w6.setCell ⟨R, 0, none⟩ (.int .i64 P0)).setCell ⟨R, 1, none⟩ (.int .i64 N2)) (r := D) (o := .deferred none) (fun e => hDR e.symm)).trans hS2
    have s0 := cellOf hS3 0 rfl
    have s1 := cellOf hS3 1 rfl
    refine ⟨_, results_cell2T (v := .agg #[.int .i64 P0, .int .i64 N2]) rfl _ _ _ (by rfl) (by go_simp), by rw [← HP0.out, ← HN2.out]; rfl, ?_⟩
    have g1 := (((hc1.trans hc2).trans hc4).andThen hc (fun k q => .inr (by have : k = C := q; omega))).trans (hcd.trans hc6)
    have g2 := (g1.setNew (p := ⟨R, 0, none⟩) HRw.out (.int .i64 P0)).setNew (p := ⟨R, 1, none⟩) HRw.out (.int .i64 N2)
    have hDw2 : w.heap.size ≤ D := by
      have := ((hc1.trans hc2).trans hc4).size
      omega
    exact g2.grown (grownBy_putObj' _ D _) (fun k e => by cases e; exact .inl hDw2)
end Go.Proofs.YtinjbonodlkafaaDoor

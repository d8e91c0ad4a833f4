/- Layer 5 (tree): Within. -/
import Derived.Test.YtinjbonodlkafaaDoorTreeIv
set_option linter.unusedVariables false
set_option linter.unusedSimpArgs false
namespace Go.Proofs.YtinjbonodlkafaaDoor
open Go Go.RowKit Go.Shelf

/-- Within's answer. -/
def inB (L : TRows) (a b : Int) : Bool := hasB L a && (hasB L b && (decide (a = b) || decide (a ∈ sub L b)))

/-- Interval, whether it's there or not: its value. -/
def ivl (L : TRows) (a : Int) : Int × Int := if hasB L a then ((at_ L a : Nat), ((1 + (sub L a).length : Nat) : Int)) else (0, 0)
theorem tree_Interval_any (w : World) (t m n : Nat) (L : TRows) (id : Int) (h : TreeAt w t m L) (ok : TreeOk L n) (hl : L.length ≤ 100000) :
    Calls Tryd.prog 30 #[.pointer (some ⟨t, 0, none⟩), .int .i64 id] w fun e w' => e = .returned (.tuple #[.agg #[.int .i64 (ivl L id).1, .int .i64 (ivl L id).2], .bool (hasB L id)]) ∧ Ch No w w' := by
  cases hb : hasB L id with
  | false => unfold ivl; rw [hb]; exact tree_Interval_no w t m L id h hb
  | true => unfold ivl; rw [hb]; exact tree_Interval w t m n L id h ok hl hb
theorem ivl_bd {L : TRows} {n : Nat} (ok : TreeOk L n) (hl : L.length ≤ 100000) (a : Int) : 0 ≤ (ivl L a).1 ∧ (ivl L a).1 ≤ 100000 ∧ 0 ≤ (ivl L a).2 ∧ (ivl L a).2 ≤ 100001 := by
  unfold ivl
  split
  · rename_i h
    have hm := (mem_walk ok).2 ((hasB_true ok.up).1 h)
    have := at_bd ok hm
    have := subT_length ok 0
    have := subT_length ok a
    simp only
    omega
  · simp
theorem inB_eq {L : TRows} {n : Nat} (ok : TreeOk L n) (a b : Int) (ha : hasB L a = true) (hb : hasB L b = true) : inB L a b = (decide ((ivl L a).1 ≥ (ivl L b).1) && decide ((ivl L a).1 < (ivl L b).1 + (ivl L b).2)) := by
  have h1 := within_iff ok ((mem_walk ok).2 ((hasB_true ok.up).1 ha)) ((mem_walk ok).2 ((hasB_true ok.up).1 hb))
  unfold inB ivl
  rw [ha, hb]
  simp only [if_true, Bool.true_and]
  rw [Bool.eq_iff_iff]
  simp only [Bool.or_eq_true, Bool.and_eq_true, decide_eq_true_eq]
  rw [← h1]
  omega

set_option maxRecDepth 100000 in
theorem tree_Within (w : World) (t m n : Nat) (L : TRows) (a b : Int) (h : TreeAt w t m L) (ok : TreeOk L n) (hl : L.length ≤ 100000) :
    Calls Tryd.prog 16 #[.pointer (some ⟨t, 0, none⟩), .int .i64 a, .int .i64 b] w fun e w' => e = .returned (.bool (inB L a b)) ∧ Ch No w w' := by
  have ia := tree_Interval_any w t m n L a h ok hl
  have ib := fun W (hW : Ch No w W) => tree_Interval_any W t m n L b (h.ch0 hW) ok hl
  have bda := ivl_bd ok hl a
  have bdb := ivl_bd ok hl b
  have hin := inB_eq ok a b
  have hin1 : hasB L a = false → inB L a b = false := fun e => by unfold inB; rw [e]; rfl
  have hin2 : hasB L b = false → inB L a b = false := fun e => by unfold inB; rw [e]; simp
  obtain ⟨I, hI⟩ : ∃ z, z = inB L a b := ⟨_, rfl⟩
  obtain ⟨x0, hx0⟩ : ∃ z, z = (ivl L a).1 := ⟨_, rfl⟩
  obtain ⟨x1, hx1⟩ : ∃ z, z = (ivl L a).2 := ⟨_, rfl⟩
  obtain ⟨y0, hy0⟩ : ∃ z, z = (ivl L b).1 := ⟨_, rfl⟩
  obtain ⟨y1, hy1⟩ : ∃ z, z = (ivl L b).2 := ⟨_, rfl⟩
  obtain ⟨ha, hha⟩ : ∃ z, z = hasB L a := ⟨_, rfl⟩
  obtain ⟨hb, hhb⟩ : ∃ z, z = hasB L b := ⟨_, rfl⟩
  rw [← hx0, ← hx1, ← hha] at ia
  simp only [← hy0, ← hy1, ← hhb] at ib
  rw [← hx0, ← hx1] at bda
  rw [← hy0, ← hy1] at bdb
  rw [← hI, ← hha, ← hhb, ← hx0, ← hy0, ← hy1] at hin
  rw [← hI, ← hha] at hin1
  rw [← hI, ← hhb] at hin2
  rw [← hI]
  have e1 : IntKind.i64.wrap (y0 + y1) = y0 + y1 := IntWalk.i64_in _ (by omega)
  clear hI hx0 hx1 hy0 hy1 hha hhb
  have hcase : (ha = false ∧ I = false) ∨ (ha = true ∧ hb = false ∧ I = false) ∨ (ha = true ∧ hb = true ∧ decide (x0 ≥ y0) = false ∧ I = false) ∨ (ha = true ∧ hb = true ∧ decide (x0 ≥ y0) = true ∧ decide (x0 < y0 + y1) = false ∧ I = false) ∨ (ha = true ∧ hb = true ∧ decide (x0 ≥ y0) = true ∧ decide (x0 < y0 + y1) = true ∧ I = true) := by
    cases ha with
    | false => exact .inl ⟨rfl, hin1 rfl⟩
    | true =>
      cases hb with
      | false => exact .inr (.inl ⟨rfl, rfl, hin2 rfl⟩)
      | true =>
        have := hin rfl rfl
        cases e : decide (x0 ≥ y0) <;> cases e2 : decide (x0 < y0 + y1) <;> rw [e, e2] at this <;> simp_all
  clear hin hin1 hin2
  rcases hcase with ⟨rfl, rfl⟩ | ⟨rfl, rfl, rfl⟩ | ⟨rfl, rfl, b1, rfl⟩ | ⟨rfl, rfl, b1, b2, rfl⟩ | ⟨rfl, rfl, b1, b2, rfl⟩
  all_goals
    go_enter Tryd.func16, Tryd.ntmps16
    go_wp2_with fail
    with_reducible refine ia.mono ?_
    rintro e w1 ⟨rfl, hc1⟩
    obtain ⟨w2, hw2⟩ : ∃ z, z = w1.alloc (.cells #[.int .i64 x0, .int .i64 x1] 70) := ⟨_, rfl⟩
    have hc2 : Ch No w1 w2 := by rw [hw2]; exact (Ch.refl _ _).alloc _
    have k2 : w2.heap[w1.heap.size]? = some (.cells #[.int .i64 x0, .int .i64 x1] 70 (0, 0)) := by rw [hw2]; exact World.alloc_heap_new _ _
    obtain ⟨R1, hR1⟩ : ∃ z, z = w1.heap.size := ⟨_, rfl⟩
    rw [← hR1] at k2
    have HW2 := Lib.hid hw2
    have HR1 := Lib.hid hR1
    clear hw2 hR1
    dsimp only
    go_wp2_with fail
    rw [← HW2.out, ← HR1.out]
    with_reducible refine (ib w2 (hc1.trans hc2)).mono ?_
    rintro e w3 ⟨rfl, hc3⟩
    obtain ⟨w4, hw4⟩ : ∃ z, z = w3.alloc (.cells #[.int .i64 y0, .int .i64 y1] 70) := ⟨_, rfl⟩
    have hc4 : Ch No w3 w4 := by rw [hw4]; exact (Ch.refl _ _).alloc _
    have k4 : w4.heap[w3.heap.size]? = some (.cells #[.int .i64 y0, .int .i64 y1] 70 (0, 0)) := by rw [hw4]; exact World.alloc_heap_new _ _
    have k3 := (hc3.trans hc4).heap k2 (fun q => q)
    have z0 := cellOf k4 0 rfl
    have z1 := cellOf k4 1 rfl
    have v0 := cellOf k3 0 rfl
    have v1 := cellOf k3 1 rfl
    rw [hw4] at z0 z1 v0 v1
    have HW4 := Lib.hid hw4
    clear hw4
    dsimp only
    go_wp2_with fail
    go_ret
    exact ⟨rfl, by rw [← HW4.out]; exact ((hc1.trans hc2).trans hc3).trans hc4⟩
end Go.Proofs.YtinjbonodlkafaaDoor

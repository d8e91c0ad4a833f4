/- Layer 11 (arena): the iterator over an arena's pages; how many they are; whether a word stands in them. -/
import Derived.Test.YtpldogmamifdpaaDoorArena6
import Derived.Test.YtpldogmamifdpaaDoorSeq
import Derived.Maps.OwnIn
set_option linter.unusedVariables false
set_option linter.unusedSimpArgs false
namespace Go.Proofs.YtpldogmamifdpaaDoor
open Go Go.RowKit Go.Shelf

attribute [local go_sem] Oper.semAt_some

/-- Cells stay, but for the blocks X. -/
def Kc (X : Nat → Prop) (W W' : World) : Prop := W.heap.size ≤ W'.heap.size ∧ ∀ (k : Nat) (o : Obj), ¬ X k → W.heap[k]? = some o → o.isCells = true → W'.heap[k]? = some o
theorem Kc.refl (X : Nat → Prop) (W : World) : Kc X W W := ⟨Nat.le_refl _, fun _ _ _ h _ => h⟩
theorem Kc.trans {X : Nat → Prop} {A B C : World} (h : Kc X A B) (k : Kc X B C) : Kc X A C := ⟨Nat.le_trans h.1 k.1, fun i o hx hi ho => k.2 i o hx (h.2 i o hx hi ho) ho⟩
theorem Kc.cell {X : Nat → Prop} {W W' : World} (h : Kc X W W') {p : Addr} {v : Value} (hc : W.cell? p = some v) (hx : ¬ X p.block) : W'.cell? p = some v := by
  obtain ⟨o, ho, hcs⟩ := cells_of_cell hc
  exact (World.cell?_of_block ((h.2 _ _ hx ho hcs).trans ho.symm)).trans hc
theorem Kc.ofCh {F X : Nat → Prop} {W W' : World} (h : Ch F W W') (hf : ∀ k, F k → X k) : Kc X W W' := ⟨h.size, fun k o hx hk _ => h.heap hk (fun q => hx (hf k q))⟩
theorem Kc.put {X : Nat → Prop} {B : Nat} (W : World) (l : Nat) (o o' : Obj) (_ : B ≤ l) (hl : W.heap[l]? = some o) (ho : o.isCells = false) (_ : o.isWalk = false) : Kc X W (W.putObj l o') := by
  refine ⟨by simp, fun k o2 _ hk hc => ?_⟩
  by_cases hkl : k = l
  · subst hkl
    rw [hl] at hk
    cases hk
    rw [ho] at hc
    cases hc
  · exact (World.putObj_heap_other (by omega)).trans hk

/-- The pages of runs, one behind the other. -/
def pagesOf : List (Int × Int) → List Int
  | [] => []
  | r :: R => (List.range' 0 r.2.toNat).map (fun i : Nat => r.1 + (i : Int)) ++ pagesOf R
theorem pagesOf_length : ∀ R : List (Int × Int), (pagesOf R).length = (R.map (fun r => r.2.toNat)).sum
  | [] => rfl
  | r :: R => by rw [pagesOf, List.length_append, pagesOf_length R]; simp
theorem mem_pagesOf {p : Int} : ∀ {R : List (Int × Int)}, p ∈ pagesOf R ↔ ∃ r ∈ R, r.1 ≤ p ∧ p < r.1 + r.2
  | [] => by simp [pagesOf]
  | r :: R => by
    rw [pagesOf, List.mem_append, mem_pagesOf (R := R)]
    constructor
    · rintro (h | ⟨q, hq, h⟩)
      · obtain ⟨i, hi, rfl⟩ := List.mem_map.1 h
        have := List.mem_range'_1.1 hi
        exact ⟨r, List.mem_cons_self .., by omega, by omega⟩
      · exact ⟨q, List.mem_cons_of_mem _ hq, h⟩
    · rintro ⟨q, hq, h1, h2⟩
      rcases List.mem_cons.1 hq with rfl | hq
      · exact .inl (List.mem_map.2 ⟨(p - q.1).toNat, List.mem_range'_1.2 (by omega), by omega⟩)
      · exact .inr ⟨q, hq, h1, h2⟩

/-- What the iterator reads. -/
structure Owns11 (X : Nat → Prop) (Bx b : Nat) (A : Option Addr) (C : Nat) (R : List (Int × Int)) (W : World) : Prop where
  bx : W.cell? ⟨Bx, 0, none⟩ = some (.pointer (some ⟨b, 0, none⟩))
  c2 : W.cell? ⟨b, 2, none⟩ = some (.slice A R.length C)
  rw_ : ∀ i, ∀ h : i < R.length, ∃ bq off, A = some ⟨bq, off, none⟩ ∧ ¬ X bq ∧ W.cell? ⟨bq, off + i * 2, none⟩ = some (.int .i64 R[i].1) ∧ W.cell? ⟨bq, off + i * 2 + 1, none⟩ = some (.int .i64 R[i].2)

set_option maxRecDepth 100000 in
set_option maxHeartbeats 4000000 in
theorem owned_stops (n : Nat) (hn : 1 ≤ n) (X : Nat → Prop) (Bx b : Nat) (A : Option Addr) (C : Nat) (R : List (Int × Int)) (w : World) (h : Owns11 X Bx b A C R w) (hX : ∀ k, X k → k < w.heap.size) (hR : ∀ r ∈ R, 0 ≤ r.1 ∧ 0 ≤ r.2 ∧ r.1 + r.2 ≤ 2000) (hl : R.length ≤ 100000) :
    SeqStopsK Fence.wide n Tryd.prog 53 #[.pointer (some ⟨Bx, 0, none⟩)] (fun i : Int => #[Value.int .i64 i]) (Kc X) (fun ys => ys = pagesOf R) (fun pre => pre <+: pagesOf R) (pagesOf R).length w := by
  intro l J Jx W hW hJ hJx hY h0
  have q0 := (Ch.ofBelow (F := No) hW).cell h.bx (fun q => q)
  have q1 := (Ch.ofBelow (F := No) hW).cell h.c2 (fun q => q)
  have hrow : ∀ i, ∀ hi : i < R.length, ∃ bq off, A = some ⟨bq, off, none⟩ ∧ ¬ X bq ∧ W.cell? ⟨bq, off + i * 2, none⟩ = some (.int .i64 R[i].1) ∧ W.cell? ⟨bq, off + i * 2 + 1, none⟩ = some (.int .i64 R[i].2) := fun i hi => by
    obtain ⟨bq, off, e, hx, d0, d1⟩ := h.rw_ i hi
    exact ⟨bq, off, e, hx, (Ch.ofBelow (F := No) hW).cell d0 (fun q => q), (Ch.ofBelow (F := No) hW).cell d1 (fun q => q)⟩
  have hWs := hW.size
  have hXW : ∀ k, X k → k < W.heap.size := fun k q => Nat.lt_of_lt_of_le (hX k q) hWs
  refine callsIn_of_wp Tryd.func53 rfl trivial ?_ rfl
  simp only [Tryd.ntmps53, List.size_toArray, List.length_cons, List.length_nil, Nat.reduceAdd, Nat.reduceSub, Array.replicate_succ, Array.replicate_zero, List.push_toArray, List.append_toArray, List.nil_append, List.cons_append]
  gi_wp2
  gi_loopw [11] (fun v wq => ∃ (k : Nat) (pre : List Int), k ≤ R.length ∧ v = .int .i64 k ∧ pagesOf R = pre ++ pagesOf (R.drop k) ∧ J pre wq ∧ Kc X W wq) (fun v _ => R.length - (intOf v).toNat)
  case atStart => exact ⟨0, [], by omega, rfl, rfl, h0, Kc.refl _ _⟩
  case round =>
    obtain ⟨k, pre, hk, rfl, hpg, hJr, hkr⟩ := hrel
    by_cases hlt : k < R.length
    · obtain ⟨bq, off, rfl, hxq, d0, d1⟩ := hrow k hlt
      have d0 := hkr.cell d0 hxq
      have d1 := hkr.cell d1 hxq
      have hbd := hR R[k] (List.getElem_mem hlt)
      rw [List.drop_eq_getElem_cons hlt] at hpg
      obtain ⟨r, hr⟩ : ∃ r, r = R[k] := ⟨_, rfl⟩
      rw [← hr] at d0 d1 hbd hpg
      obtain ⟨r1, r2⟩ := r
      dsimp only at d0 d1 hbd
      have hrs := hkr.1
      have hXr : ¬ X wr.heap.size := fun q => by have := hXW _ q; omega
      obtain ⟨m, hm⟩ : ∃ m : Nat, r2 = (m : Int) := ⟨r2.toNat, by omega⟩
      subst hm
      rw [pagesOf] at hpg
      dsimp only at hpg
      rw [Int.toNat_natCast] at hpg
      obtain ⟨P2, hP2⟩ : ∃ P2, P2 = pagesOf (R.drop (k + 1)) := ⟨_, rfl⟩
      rw [← hP2] at hpg
      have e0 : (wr.alloc (.cells #[.int .i64 r1, .int .i64 (m : Int)] 37)).cell? ⟨wr.heap.size, 0, none⟩ = some (.int .i64 r1) := cellOf (World.alloc_heap_new _ _) 0 rfl
      have e1 : (wr.alloc (.cells #[.int .i64 r1, .int .i64 (m : Int)] 37)).cell? ⟨wr.heap.size, 1, none⟩ = some (.int .i64 (m : Int)) := cellOf (World.alloc_heap_new _ _) 1 rfl
      obtain ⟨wa, hwa⟩ : ∃ z, z = wr.alloc (.cells #[.int .i64 r1, .int .i64 (m : Int)] 37) := ⟨_, rfl⟩
      rw [← hwa] at e0 e1
      have hka : Kc X wr wa := by rw [hwa]; exact Kc.ofCh ((Ch.refl No wr).alloc _) (fun _ q => q.elim)
      have hJa : J pre wa := by rw [hwa]; exact hJ _ _ _ none hJr (World.grownBy_alloc wr _ none) (fun r e => by cases e)
      have HWA := Lib.hid hwa
      have HR := Lib.hid hr
      have HP := Lib.hid hP2
      have HG := Lib.hid hpg
      clear hwa hr hP2 hpg
      gi_wp2
      rw [← HWA.out]
      gi_loopw [17] (fun v wq => ∃ (j : Nat) (pre : List Int), j ≤ m ∧ v = .int .i64 j ∧ pagesOf R = pre ++ ((List.range' j (m - j)).map (fun i : Nat => r1 + (i : Int)) ++ P2) ∧ J pre wq ∧ Kc X wa wq) (fun v _ => m - (intOf v).toNat)
      case atStart => exact ⟨0, pre, by omega, rfl, HG.out, hJa, Kc.refl _ _⟩
      case round =>
        obtain ⟨j, pre, hj, rfl, hpg, hJs, hks⟩ := hrel
        by_cases hjm : j < m
        · rw [show m - j = (m - (j + 1)) + 1 by omega, List.range'_succ, List.map_cons] at hpg
          have e0 := hks.cell e0 hXr
          have hw1 : IntKind.i64.wrap (r1 + (j : Int)) = r1 + (j : Int) := IntWalk.i64_in _ (by omega)
          obtain ⟨fn, tmps, assign, body, hy, hRy⟩ := hY pre (r1 + (j : Int)) wr hJs (by rw [hpg]; simp)
          obtain ⟨x, hx⟩ : ∃ x, x = r1 + (j : Int) := ⟨_, rfl⟩
          rw [← hx] at hpg hy hRy
          have hw2 : IntKind.i64.wrap (r1 + (j : Int)) = x := hw1.trans hx.symm
          have HG := Lib.hid hpg
          clear hpg hw1 hx
          gi_wp2
          refine hRy.mono ?_
          rintro e W3 (⟨rfl, hJ3, hk3⟩ | ⟨rfl, hJx3⟩)
          · gi_wp2
            go_roundw
            case rel => exact ⟨j + 1, pre ++ [x], by omega, by go_num, by rw [HG.out]; simp, hJ3, hks.trans hk3⟩
            case measure => exact meas_lt (by omega)
          · gi_wp2
            refine bodyPost_ret (results_none rfl _ _ _) rfl ?_
            exact ⟨⟨_, rfl⟩, .inr ⟨pre ++ [x], ⟨_, by rw [HG.out, List.append_assoc]; rfl⟩, hJx3⟩⟩
        · obtain rfl : j = m := by omega
          rw [Nat.sub_self] at hpg
          have hpg2 : pagesOf R = pre ++ P2 := by simpa using hpg
          have HG := Lib.hid hpg2
          clear hpg hpg2
          gi_wp2
          go_roundw
          case rel => exact ⟨k + 1, pre, by omega, by go_num, by rw [HG.out, HP.out], hJs, (hkr.trans hka).trans hks⟩
          case measure => exact meas_lt (by omega)
    · obtain rfl : k = R.length := by omega
      rw [List.drop_length] at hpg
      have hpg2 : pagesOf R = pre := by simpa [pagesOf] using hpg
      have HP := Lib.hid hpg2
      clear hpg hpg2
      gi_wp2
      go_end0
      exact ⟨⟨_, rfl⟩, .inl ⟨pre, HP.out.symm, hJr⟩⟩
end Go.Proofs.YtpldogmamifdpaaDoor

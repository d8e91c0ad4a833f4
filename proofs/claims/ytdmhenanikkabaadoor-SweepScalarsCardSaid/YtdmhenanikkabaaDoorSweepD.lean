/- Layer 18 (sweep): what is gone through; the chapter's example. -/
import Derived.Test.YtdmhenanikkabaaDoorSweepC
import Derived.Test.YtdmhenanikkabaaDoorSweepP
set_option linter.unusedVariables false
set_option linter.unusedSimpArgs false
namespace Go.Proofs.YtdmhenanikkabaaDoor
open Go Go.RowKit

theorem great18 (w : World) (q : Option Addr) (c : Nat) (l : List Ob) (h : SlR objRp No w q c l) (hl : l.length ≤ 9223372036854775807) :
    Calls Tryd.prog 5 #[.slice q l.length c] w fun e w' => ∃ B : Bool, e = .returned (.bool B) ∧ (B = false → Fits l) ∧ Ch No w w' := by
  go_enter Tryd.func5, Tryd.ntmps5
  go_wp2_with fail
  go_loopw [7] (fun u wr => ∃ (i : Nat), i ≤ l.length ∧ u = .int .i64 i ∧ (∀ j, ∀ hj : j < l.length, j < i → l[j].kinds.length ≤ 40 ∧ l[j].vals.length ≤ 40 ∧ I64 l[j].reg) ∧ Ch No w wr) (fun u _ => l.length - (intOf u).toNat)
  case atStart => exact ⟨0, by omega, rfl, fun j _ hj => absurd hj (by omega), Ch.refl _ _⟩
  case round =>
    obtain ⟨i, hi, rfl, hno, hc⟩ := hrel
    by_cases hlt : i < l.length
    · obtain ⟨b, off, rfl, _, _, hcs, ia, ir, _, _⟩ := (h.ch0 hc).obj_at i hlt
      have hnx : l[i].kinds.length ≤ 40 → l[i].vals.length ≤ 40 → I64 l[i].reg → ∀ j, ∀ hj : j < l.length, j < i + 1 → l[j].kinds.length ≤ 40 ∧ l[j].vals.length ≤ 40 ∧ I64 l[j].reg := fun h1 h2 h3 j hj hji => by
        by_cases e : j = i
        · subst e; exact ⟨h1, h2, h3⟩
        · exact hno j hj (by omega)
      obtain ⟨o, ho⟩ : ∃ z, z = l[i] := ⟨_, rfl⟩
      rw [← ho] at hcs ia ir hnx
      have d0 := hcs 0 _ rfl
      have d1 := hcs 1 _ rfl
      have d2 := hcs 2 _ rfl
      have d3 := hcs 3 _ rfl
      have d4 := hcs 4 _ rfl
      have d5 := hcs 5 _ rfl
      have d6 := hcs 6 _ rfl
      have d7 := hcs 7 _ rfl
      rw [Nat.add_zero] at d0
      have hal : ∀ cs T, Ch No wr (wr.alloc (.cells cs T)) := fun cs T => (Ch.refl _ _).alloc _
      have HNX := Lib.hid hnx
      have HIR := Lib.hid ir
      clear hnx ho hno hcs
      by_cases h1 : 40 < o.kinds.length
      · have b1 : decide ((o.kinds.length : Int) > 40) = true := decide_eq_true (by omega)
        go_wp2_with fail
        go_ret
        exact ⟨true, rfl, (fun z => by cases z), hc.trans (hal _ _)⟩
      · have b1 : decide ((o.kinds.length : Int) > 40) = false := decide_eq_false (by omega)
        by_cases h2 : 40 < o.vals.length
        · have b2 : decide ((o.vals.length : Int) > 40) = true := decide_eq_true (by omega)
          go_wp2_with fail
          go_ret
          exact ⟨true, rfl, (fun z => by cases z), hc.trans (hal _ _)⟩
        · have b2 : decide ((o.vals.length : Int) > 40) = false := decide_eq_false (by omega)
          go_wp2_with fail
          go_roundw
          case rel => exact ⟨i + 1, by omega, by go_num, HNX.out (by omega) (by omega) HIR.out, hc.trans (hal _ _)⟩
          case measure => exact meas_lt (by omega)
    · obtain rfl : i = l.length := by omega
      have HN := Lib.hid hno
      clear hno
      go_wp2_with fail
      go_ret
      refine ⟨_, rfl, fun z => ?_, hc⟩
      have h60 : l.length ≤ 60 := by have := of_decide_eq_false z; omega
      refine ⟨h60, fun o ho => ?_, fun o ho => ?_⟩
      · obtain ⟨j, hj, rfl⟩ := List.getElem_of_mem ho
        have := HN.out j hj hj
        exact ⟨this.1, this.2.1⟩
      · obtain ⟨j, hj, rfl⟩ := List.getElem_of_mem ho
        exact (HN.out j hj hj).2.2

theorem one_lit {k : IntKind} {F : Nat → Prop} {w : World} {g : Nat} {x : Int} {T : TypeId} (h : w.heap[g]? = some (.cells #[.int k x] T (0, 0))) (hx : InK k x) (hF : ¬ F g) : SlR (intRp k) F w (some ⟨g, 0, none⟩) 1 [x] :=
  ⟨Nat.le_refl _, by unfold maxLen; omega, fun q => (by cases q), fun _ => ⟨g, 0, rfl, hF, heap_lt h, fun i hi => by
    have hi0 : i = 0 := by simpa using hi
    subst hi0
    refine ⟨[.int k x], fun j u hj => ?_, rfl, hx⟩
    have hj0 : j = 0 := by have := (List.getElem?_eq_some_iff.1 hj).1; simpa using this
    subst hj0
    simp at hj
    subst hj
    exact cellOf h 0 rfl⟩⟩

def ex1 (g : Nat) : Ob := ⟨3, 1, false, 0, 0, 0, some ⟨g, 0, none⟩, 1, some ⟨g + 1, 0, none⟩, 1, [1], [9]⟩
def ex2 : Ob := ⟨9, 2, false, 0, 0, 0, none, 0, none, 0, [], []⟩
set_option maxRecDepth 100000 in
theorem fixed18 (w : World) (hW : Wt w) : Calls Tryd.prog 6 #[] w fun e w' => e = .returned (.bool true) ∧ Ch No w w' := by
  obtain ⟨g, hg⟩ : ∃ z, z = w.heap.size := ⟨_, rfl⟩
  obtain ⟨w1, hw1⟩ : ∃ z, z = w.alloc (.cells #[.int .i64 1] 3) := ⟨_, rfl⟩
  obtain ⟨w2, hw2⟩ : ∃ z, z = w1.alloc (.cells #[.int .u64 9] 36) := ⟨_, rfl⟩
  obtain ⟨w3, hw3⟩ : ∃ z, z = w2.alloc (.cells ((ex1 g).cells ++ ex2.cells).toArray 30) := ⟨_, rfl⟩
  have hs1 : w1.heap.size = g + 1 := by rw [hw1, hg]; simp
  have hs2 : w2.heap.size = g + 2 := by rw [hw2]; simp; omega
  have k1 : w1.heap[g]? = some (.cells #[.int .i64 1] 3 (0, 0)) := by rw [hw1, hg]; exact heap_alloc_new _ _
  have k2 : w2.heap[g + 1]? = some (.cells #[.int .u64 9] 36 (0, 0)) := by rw [hw2, ← hs1]; exact heap_alloc_new _ _
  have k3 : w3.heap[g + 2]? = some (.cells ((ex1 g).cells ++ ex2.cells).toArray 30 (0, 0)) := by rw [hw3, ← hs2]; exact heap_alloc_new _ _
  have c1 : Ch No w w1 := by rw [hw1]; exact (Ch.refl _ _).alloc _
  have c2 : Ch No w1 w2 := by rw [hw2]; exact (Ch.refl _ _).alloc _
  have c3 : Ch No w2 w3 := by rw [hw3]; exact (Ch.refl _ _).alloc _
  have hsl : SlR objRp No w3 (some ⟨g + 2, 0, none⟩) 2 [ex1 g, ex2] := by
    refine ⟨Nat.le_refl _, by unfold maxLen; omega, fun q => (by cases q), fun _ => ⟨g + 2, 0, rfl, fun e => e, heap_lt k3, fun i hi => ?_⟩⟩
    have hi0 : i = 0 ∨ i = 1 := by simp at hi; omega
    rcases hi0 with rfl | rfl
    · refine ⟨(ex1 g).cells, fun j u hj => ?_, rfl, show _ ∧ _ from by simp [ex1], show _ ∧ _ from by simp [ex1], ?_, ?_⟩
      · refine cellOf k3 (0 + 0 * 8 + j) ?_
        have hlt := (List.getElem?_eq_some_iff.1 hj).1
        rw [List.getElem?_toArray, Nat.zero_mul, Nat.add_zero, Nat.zero_add, List.getElem?_append_left hlt]
        exact hj
      · exact (one_lit k1 (show _ ∧ _ from by omega) (fun e => e)).ch0 (c2.trans c3)
      · exact (one_lit k2 (show _ ∧ _ from by omega) (fun e => e)).ch0 c3
    · refine ⟨ex2.cells, fun j u hj => ?_, rfl, show _ ∧ _ from by simp [ex2], show _ ∧ _ from by simp [ex2], SlR.nilR _ _ _, SlR.nilR _ _ _⟩
      refine cellOf k3 (0 + 1 * 8 + j) ?_
      have hlt := (List.getElem?_eq_some_iff.1 hj).1
      rw [List.getElem?_toArray, Nat.zero_add, Nat.one_mul, List.getElem?_append_right (by simp [Ob.cells])]
      rw [show 8 + j - (ex1 g).cells.length = j from by simp [Ob.cells]]
      exact hj
  have hft : Fits [ex1 g, ex2] := ⟨by simp, fun o ho => by simp at ho; rcases ho with rfl | rfl <;> simp [ex1, ex2], fun o ho => by simp at ho; rcases ho with rfl | rfl <;> exact show _ ∧ _ from by simp [ex1, ex2]⟩
  have hW3 := ((hW.ch0 c1).ch0 c2).ch0 c3
  have ho := sweep_Outgoing No w3 (some ⟨g + 2, 0, none⟩) 2 [ex1 g, ex2] 1 hsl hft hW3 (show _ ∧ _ from by omega) (fun _ e => e.elim)
  rw [show tally (outs [ex1 g, ex2] 1) = [(2, 1)] from rfl] at ho
  have hi := fun W (hc : Ch No w3 W) => sweep_Incoming W (some ⟨g + 2, 0, none⟩) none 2 0 [ex1 g, ex2] [] 2 (hsl.ch0 hc) (SlR.nilR _ _ _) hft (by simp) (hW3.ch0 hc)
  rw [show cnt (tally (ins_ [ex1 g, ex2] [])) 2 = 1 from rfl] at hi
  simp only [List.length_cons, List.length_nil, Nat.zero_add, Nat.reduceAdd] at ho hi
  simp only [Ob.cells, ex1, ex2, List.cons_append, List.nil_append, List.length_cons, List.length_nil, Nat.zero_add, Nat.reduceAdd] at hw3
  have HG := Lib.hid hg
  have HW1 := Lib.hid hw1
  have HW2 := Lib.hid hw2
  have HW3 := Lib.hid hw3
  have HS1 := Lib.hid hs1
  have HS2 := Lib.hid hs2
  clear hg hw1 hw2 hw3 hs1 hs2 k1 k2 k3
  go_enter Tryd.func6, Tryd.ntmps6
  go_wp2_with fail
  rw [← HG.out, ← HW1.out, ← HW2.out, ← HW3.out, show g + 1 + 1 = g + 2 from rfl]
  with_reducible refine ho.mono ?_
  rintro e w4 ⟨q4, c4, rfl, hs4, hc4⟩
  obtain ⟨bq, off, rfl, _, _, d0, d1, _⟩ := hs4.pair_at 0 (by simp)
  simp only [Nat.zero_mul, Nat.add_zero, List.getElem_cons_zero] at d0 d1
  dsimp only
  go_wp2_with fail
  with_reducible refine (hi w4 hc4).mono ?_
  rintro e w5 ⟨rfl, hc5⟩
  dsimp only
  go_wp2_with fail
  go_ret
  exact ⟨rfl, (((c1.trans c2).trans c3).trans hc4).trans hc5⟩
end Go.Proofs.YtdmhenanikkabaaDoor

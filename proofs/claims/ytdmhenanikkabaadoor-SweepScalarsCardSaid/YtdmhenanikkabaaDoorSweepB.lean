/- Layer 18 (sweep): links; Outgoing. -/
import Derived.Test.YtdmhenanikkabaaDoorLinks
import Derived.Test.YtdmhenanikkabaaDoorSeqR2
import Derived.Test.YtdmhenanikkabaaDoorTallyAll
set_option linter.unusedVariables false
set_option linter.unusedSimpArgs false
namespace Go.Proofs.YtdmhenanikkabaaDoor
open Go Go.RowKit Go.Shelf

attribute [local go_sem] Oper.semAt_some

theorem sweep_links (w : World) (q : Option Addr) (c n : Nat) :
    Calls Tryd.prog 13 #[.slice q n c] w fun e w' =>
      e = .returned (.func (.func 18) #[] #[.pointer (some ⟨w.heap.size, 0, none⟩)]) ∧ w' = w.alloc (.cells #[.slice q n c] 22) := by
  go_enter Tryd.func13, Tryd.ntmps13
  go_wp2_with fail
  go_ret
  exact ⟨by simp, rfl⟩

theorem tally_out (l : List (Int × Int)) (x : Int × Int) (r : Int) : (l ++ [x]).filter (fun y => decide (y.1 = r)) = l.filter (fun y => decide (y.1 = r)) ++ (if x.1 = r then [x] else []) := by
  rw [List.filter_append]
  congr 1
  by_cases e : x.1 = r <;> simp [e]

def tOuts (pre : List (Int × Int)) (r : Int) : Rows := tally ((pre.filter fun y => decide (y.1 = r)).map (·.2))
theorem tOuts_yes (pre : List (Int × Int)) (x : Int × Int) (r : Int) (h : x.1 = r) : tOuts (pre ++ [x]) r = (tAdd (tOuts pre r) x.2 1).1 := by
  unfold tOuts
  rw [tally_out, if_pos h, List.map_append, List.map_cons, List.map_nil, tally_snoc]
theorem tOuts_no (pre : List (Int × Int)) (x : Int × Int) (r : Int) (h : x.1 ≠ r) : tOuts (pre ++ [x]) r = tOuts pre r := by
  unfold tOuts
  rw [tally_out, if_neg h, List.append_nil]

set_option maxRecDepth 100000 in
set_option maxHeartbeats 4000000 in
theorem sweep_Outgoing (F : Nat → Prop) (w : World) (q : Option Addr) (c : Nat) (l : List Ob) (r : Int) (h : SlR objRp No w q c l) (hl : Fits l) (hW : Wt w) (ir : I64 r) (hF : ∀ k, F k → k < w.heap.size) :
    Calls Tryd.prog 7 #[.slice q l.length c, .int .i64 r] w fun e w' => ∃ q' c', e = .returned (.slice q' (tally (outs l r)).length c') ∧ SlR (pairRp .i64) F w' q' c' (tally (outs l r)) ∧ Ch No w w' := by
  have hg0 := hW.lt
  have hout := outs_ok hl r
  have hlen := tally_len (outs l r)
  obtain ⟨TO, hTO⟩ : ∃ z, z = tally (outs l r) := ⟨_, rfl⟩
  have hTO2 : tOuts (links l) r = TO := by rw [hTO]; rfl
  rw [← hTO] at hlen ⊢
  have hTL : TO.length ≤ 100000 := by omega
  have hlt2 : ∀ x ∈ links l, 1 ≤ x.2 ∧ x.2 ≤ 9223372036854775807 := fun x hx => links_tgt hl hx
  obtain ⟨B3, hB3⟩ : ∃ z, z = w.heap.size := ⟨_, rfl⟩
  obtain ⟨w1, hw1⟩ : ∃ z, z = w.alloc (.cells #[.int .i64 r] 3) := ⟨_, rfl⟩
  have hc1 : Ch No w w1 := by rw [hw1]; exact (Ch.refl _ _).alloc _
  have k3 : w1.heap[B3]? = some (.cells #[.int .i64 r] 3 (0, 0)) := by rw [hw1, hB3]; exact heap_alloc_new _ _
  have HB3 := Lib.hid hB3
  have HW1 := Lib.hid hw1
  have HTO := Lib.hid hTO2
  clear hB3 hw1 hTO hTO2 hlen hout
  refine (callsIn_wide (n := 7)).1 ?_
  refine callsIn_of_wp_marks Tryd.func7 rfl trivial ?_ rfl
  simp only [Tryd.ntmps7, List.size_toArray, List.length_cons, List.length_nil, Nat.reduceAdd, Nat.reduceSub, Array.replicate_succ, Array.replicate_zero, List.push_toArray, List.append_toArray, List.nil_append, List.cons_append]
  gi_wp2
  refine ⟨trivial, ?_⟩
  rw [← HW1.out, ← HB3.out]
  refine (callsIn_wide.2 (tally_New w1)).mono ?_
  rintro e w2 ⟨t, m, rfl, hT2, ht, hm, hc2⟩
  obtain ⟨B5, hB5⟩ : ∃ z, z = w2.heap.size := ⟨_, rfl⟩
  obtain ⟨w3, hw3⟩ : ∃ z, z = w2.alloc (.cells #[.pointer (some ⟨t, 0, none⟩)] 42) := ⟨_, rfl⟩
  have hc3 : Ch No w2 w3 := by rw [hw3]; exact (Ch.refl _ _).alloc _
  have k5 : w3.heap[B5]? = some (.cells #[.pointer (some ⟨t, 0, none⟩)] 42 (0, 0)) := by rw [hw3, hB5]; exact heap_alloc_new _ _
  obtain ⟨Bl, hBl⟩ : ∃ z, z = w3.heap.size := ⟨_, rfl⟩
  obtain ⟨w4, hw4⟩ : ∃ z, z = w3.alloc (.cells #[.slice q l.length c] 22) := ⟨_, rfl⟩
  have hc4 : Ch No w3 w4 := by rw [hw4]; exact (Ch.refl _ _).alloc _
  have kl : w4.heap[Bl]? = some (.cells #[.slice q l.length c] 22 (0, 0)) := by rw [hw4, hBl]; exact heap_alloc_new _ _
  have hlk := sweep_links w3 q c l.length
  rw [← hw4, ← hBl] at hlk
  have hT4 := (hT2.ch0 hc3).ch0 hc4
  have hlT := hT2.lt
  have hm5 : B5 ≠ m ∧ Bl ≠ m ∧ B3 ≠ m := by
    have h1 := HB3.out
    have h2 := heap_lt k3
    have h3 : w3.heap.size = w2.heap.size + 1 := by rw [hw3]; simp
    omega
  have hgm : ¬ One m 0 := fun e => by have : 0 = m := e; have := hc1.size; omega
  have k34 := ((hc2.trans hc3).trans hc4).heap k3 (fun e => e)
  have k54 := hc4.heap k5 (fun e => e)
  have hW4 := (((hW.ch0 hc1).ch0 hc2).ch0 hc3).ch0 hc4
  have hwm : w.heap.size ≤ m := by have := hc1.size; omega
  have hsl := h.more (F' := fun k => w.heap.size ≤ k) (fun k e => .inr e)
  have hsl4 := (((hsl.ch0 hc1).ch0 hc2).ch0 hc3).ch0 hc4
  have hC4 := ((hc1.trans hc2).trans hc3).trans hc4
  have HB5 := Lib.hid hB5
  have HW3 := Lib.hid hw3
  clear hB5 hw3 hBl hw4 k5
  gi_wp2
  refine ⟨trivial, ?_⟩
  rw [← HW3.out, ← HB5.out]
  refine (callsIn_wide.2 hlk).mono ?_
  rintro e w4' ⟨rfl, rfl⟩
  gi_wp2
  refine wp_seqR2 (by omega) (gf := 18) (lb := #[.pointer (some ⟨Bl, 0, none⟩)]) rfl (enters_of Tryd.func18 (by kernel_rfl) rfl)
    (links_seq q c l Bl hl) (fun _ => rfl)
    (fun pre W => TallyAt W t m (tOuts pre r) ∧ Ch (One m) w4' W) (fun _ k => k = m)
    ?foot ?keep ⟨hT4, Ch.refl _ _⟩
    (fun W x => { tmps := #[.slice q l.length c, .int .i64 r, undef, .pointer (some ⟨B3, 0, none⟩), .slice none 0 0, .pointer (some ⟨B5, 0, none⟩), .pointer (some ⟨W.heap.size, 0, none⟩), .pointer (some ⟨t, 0, none⟩), .slice q l.length c, .func (.func 18) #[] #[.pointer (some ⟨Bl, 0, none⟩)], .agg #[.int .i64 x.1, .int .i64 x.2], undef, undef, undef, undef, undef, undef, undef, undef, undef, undef], defers := [] })
    (fun W x => W.alloc (.cells #[.int .i64 x.1, .int .i64 x.2] 48)) (fun W x => (Ch.refl _ _).alloc _) ?assign ?body ?done
  case foot =>
    refine ⟨?_, ?_, ?_⟩
    · rintro pre W W' row ⟨hT, hc⟩ hg hr
      have hlt := hT4.lt
      refine ⟨hT.ch ((Ch.refl (fun k => row = some k) W).grown hg (fun k e => .inr e)) (fun e => by have := (hr t e).1; omega) (fun e => by have := (hr m e).1; omega), hc.grown hg (fun k e => .inl (hr k e).1)⟩
    · rintro pre W k ⟨hT, hc⟩ rfl
      exact hT.lt.2
    · rintro pre W W' row ⟨hT, hc⟩ hg hr k hk
      exact hk
  case keep =>
    rintro pre W ⟨hT, hc⟩
    exact ⟨cellOf (hc.heap kl hm5.2.1) 0 rfl, (hsl4.ch hc (fun k e => by have : k = m := e; omega)).more (fun k e => e.elim), hW4.ch hc hgm⟩
  case assign =>
    intro l' x W K hK
    simp only [encL]
    gi_wp2
    simpa using hK
  case body =>
    rintro l' pre x rest W0 W hxs hsz0 hcells hszW ⟨hT, hc⟩
    obtain ⟨x1, x2⟩ := x
    have k6 := hcells W0.heap.size _ (heap_alloc_new _ _) rfl
    obtain ⟨B6, hB6⟩ : ∃ z, z = W0.heap.size := ⟨_, rfl⟩
    rw [← hB6] at k6 ⊢
    have y0 := cellOf k6 0 rfl
    have y1 := cellOf k6 1 rfl
    have z3 := cellOf (hc.heap k34 hm5.2.2) 0 rfl
    have z5 := cellOf (hc.heap k54 hm5.1) 0 rfl
    have hx2 := hlt2 (x1, x2) (by rw [hxs]; simp)
    simp only at hx2 y0 y1
    have ha := tally_Add W t m _ x2 1 hT (show _ ∧ _ from by omega) (show _ ∧ _ from by omega)
    have hyes := tOuts_yes pre (x1, x2) r
    have hno := tOuts_no pre (x1, x2) r
    simp only at hyes hno
    have hlt := hT.lt
    by_cases hx : x1 = r
    · have b1 : (x1 == r) = true := by simp [hx]
      have hT2 := hyes hx
      rw [← hT2] at ha
      have HT := Lib.hid hT2
      clear hx hyes hno hT2 hxs hcells hszW hsz0 hB6 k6
      gi_wp2
      refine ⟨trivial, ?_⟩
      refine (callsIn_wide.2 ha).mono ?_
      rintro e W9 ⟨rfl, hT9, hc9⟩
      gi_wp2
      exact ⟨KeepsBut.ch hc9 (fun k e => e) (fun k e => .inl e), hT9, hc.trans hc9⟩
    · have b1 : (x1 == r) = false := by simp [hx]
      have hT2 := hno hx
      rw [← hT2] at hT
      clear hx hyes hno hT2 hxs hcells hszW hsz0 hB6 k6 ha
      gi_wp2
      exact ⟨KeepsBut.refl _ _, hT, hc⟩
  case done =>
    rintro D W hD ⟨hT, hc⟩ hK hS
    rw [HTO.out] at hT
    have z5 := cellOf (hc.heap k54 hm5.1) 0 rfl
    have hDs := heap_lt hK
    have hsw : w.heap.size ≤ w4'.heap.size := hC4.size
    have hall := tally_All (fun k => F k ∨ k = D) W t m TO hT hTL (fun k e => by rcases e with e | e; have := hF k e; have := hc.size; omega; omega)
    gi_wp2
    refine ⟨trivial, ?_⟩
    refine (callsIn_wide.2 hall).mono ?_
    rintro e W9 ⟨q9, c9, rfl, hs9, hc9⟩
    have hK9 := hc9.heap hK (fun e => e)
    gi_wp2
    refine ⟨by simp, .inl ⟨_, _, rfl, run_takeDeferred hK9, ?_⟩⟩
    have hcD : Ch (fun k => k = D) W9 (W9.putObj D (.deferred none)) := (Ch.refl _ _).grown (grownBy_putObj' W9 D _) (fun k e => by cases e; exact .inr rfl)
    refine ⟨_, results_tmp rfl _ _ _, q9, c9, rfl, (hs9.ch hcD (fun k e => .inr e)).more (fun k e => .inl (.inl e)), ?_⟩
    have h1 := (hC4.andThen hc (fun k e => .inr (by have : k = m := e; omega))).trans hc9
    exact h1.andThen hcD (fun k e => .inr (by omega))
end Go.Proofs.YtdmhenanikkabaaDoor

/- Layer 18 (sweep): all, Incoming, Counts. -/
import Derived.Test.YtdmhenanikkabaaDoorSweepB
set_option linter.unusedVariables false
set_option linter.unusedSimpArgs false
namespace Go.Proofs.YtdmhenanikkabaaDoor
open Go Go.RowKit Go.Shelf

attribute [local go_sem] Oper.semAt_some

theorem ins_take {l : List Ob} {rs : List Int} {i : Nat} (h : i < rs.length) : ((rs.take (i + 1)).map (tgt l)).filter (fun t => decide (t > 0)) = ((rs.take i).map (tgt l)).filter (fun t => decide (t > 0)) ++ (if tgt l rs[i] > 0 then [tgt l rs[i]] else []) := by
  rw [List.take_succ_eq_append_getElem h, List.map_append, List.filter_append]
  congr 1
  by_cases e : tgt l rs[i] > 0 <;> simp [e]
def tIns (L : List Int) (l : List Ob) (rs : List Int) (i : Nat) : Rows := tally (L ++ ((rs.take i).map (tgt l)).filter fun t => decide (t > 0))
theorem tIns_next (L : List Int) {l : List Ob} {rs : List Int} {i : Nat} (h : i < rs.length) : tIns L l rs (i + 1) = if tgt l rs[i] > 0 then (tAdd (tIns L l rs i) (tgt l rs[i]) 1).1 else tIns L l rs i := by
  unfold tIns
  rw [ins_take h]
  split
  · rw [← List.append_assoc, tally_snoc]
  · rw [List.append_nil]

set_option maxRecDepth 100000 in
set_option maxHeartbeats 4000000 in
theorem sweep_all (w : World) (q qr : Option Addr) (c cr : Nat) (l : List Ob) (rs : List Int) (h : SlR objRp No w q c l) (h2 : SlR (intRp .u64) No w qr cr rs) (hl : Fits l) (hrs : rs.length ≤ 60) (hW : Wt w) :
    Calls Tryd.prog 16 #[.slice q l.length c, .slice qr rs.length cr] w fun e w' => ∃ t m, e = .returned (.pointer (some ⟨t, 0, none⟩)) ∧ TallyAt w' t m (tally (ins_ l rs)) ∧ w.heap.size ≤ t ∧ w.heap.size ≤ m ∧ Ch No w w' := by
  have hg0 := hW.lt
  have hTI : tIns ((links l).map (·.2)) l rs rs.length = tally (ins_ l rs) := by unfold tIns ins_; rw [List.take_length]
  have hT0 : tIns ((links l).map (·.2)) l rs 0 = tally ((links l).map (·.2)) := by unfold tIns; simp
  have hln := hl.n
  have hlt2 : ∀ x ∈ links l, 1 ≤ x.2 ∧ x.2 ≤ 9223372036854775807 := fun x hx => links_tgt hl hx
  have HTI := Lib.hid hTI
  have HT0 := Lib.hid hT0
  clear hTI hT0
  refine (callsIn_wide (n := 7)).1 ?_
  refine callsIn_of_wp_marks Tryd.func16 rfl trivial ?_ rfl
  simp only [Tryd.ntmps16, List.size_toArray, List.length_cons, List.length_nil, Nat.reduceAdd, Nat.reduceSub, Array.replicate_succ, Array.replicate_zero, List.push_toArray, List.append_toArray, List.nil_append, List.cons_append]
  gi_wp2
  refine ⟨trivial, ?_⟩
  refine (callsIn_wide.2 (tally_New w)).mono ?_
  rintro e w2 ⟨t, m, rfl, hT2, ht, hm, hc2⟩
  obtain ⟨B5, hB5⟩ : ∃ z, z = w2.heap.size := ⟨_, rfl⟩
  obtain ⟨w3, hw3⟩ : ∃ z, z = w2.alloc (.cells #[.pointer (some ⟨t, 0, none⟩)] 42) := ⟨_, rfl⟩
  have hc3 : Ch No w2 w3 := by rw [hw3]; exact (Ch.refl _ _).alloc _
  have k5 : w3.heap[B5]? = some (.cells #[.pointer (some ⟨t, 0, none⟩)] 42 (0, 0)) := by rw [hw3, hB5]; exact heap_alloc_new _ _
  obtain ⟨Bl, hBl⟩ : ∃ z, z = w3.heap.size := ⟨_, rfl⟩
  obtain ⟨w4, hw4⟩ : ∃ z, z = w3.alloc (.cells #[.slice q l.length c] 22) := ⟨_, rfl⟩
  have hc4 : Ch No w3 w4 := by rw [hw4]; exact (Ch.refl _ _).alloc _
  have kl : w4.heap[Bl]? = some (.cells #[.slice q l.length c] 22 (0, 0)) := by rw [hw4, hBl]; exact heap_alloc_new _ _
  have hlk := sweep_links w3 q c l.length
  rw [← hw4, ← hBl] at hlk
  have hT4 := (hT2.ch0 hc3).ch0 hc4
  have hlT := hT2.lt
  have hm5 : B5 ≠ m ∧ Bl ≠ m := by
    have h3 : w3.heap.size = w2.heap.size + 1 := by rw [hw3]; simp
    omega
  have hgm : ¬ One m 0 := fun e => by have : 0 = m := e; omega
  have k54 := hc4.heap k5 (fun e => e)
  have hW4 := ((hW.ch0 hc2).ch0 hc3).ch0 hc4
  have hwm : w.heap.size ≤ m := hm
  have hrr := h2.more (F' := fun k => w.heap.size ≤ k) (fun k e => .inr e)
  have hrr4 := ((hrr.ch0 hc2).ch0 hc3).ch0 hc4
  have hsl := h.more (F' := fun k => w.heap.size ≤ k) (fun k e => .inr e)
  have hsl4 := ((hsl.ch0 hc2).ch0 hc3).ch0 hc4
  have hC4 := (hc2.trans hc3).trans hc4
  have HB5 := Lib.hid hB5
  have HW3 := Lib.hid hw3
  clear hB5 hw3 hBl hw4 k5
  gi_wp2
  refine ⟨trivial, ?_⟩
  rw [← HW3.out, ← HB5.out]
  refine (callsIn_wide.2 hlk).mono ?_
  rintro e w4' ⟨rfl, rfl⟩
  gi_wp2
  refine wp_seqR2 (by omega) (gf := 18) (lb := #[.pointer (some ⟨Bl, 0, none⟩)]) rfl (enters_of Tryd.func18 (by kernel_rfl) rfl)
    (links_seq q c l Bl hl) (fun _ => rfl)
    (fun pre W => TallyAt W t m (tally (pre.map (·.2))) ∧ Ch (One m) w4' W) (fun _ k => k = m)
    ?foot ?keep ⟨hT4, Ch.refl _ _⟩
    (fun W x => { tmps := #[.slice q l.length c, .slice qr rs.length cr, undef, undef, .pointer none, .pointer (some ⟨B5, 0, none⟩), .pointer (some ⟨W.heap.size, 0, none⟩), undef, undef, undef, .pointer (some ⟨t, 0, none⟩), .slice q l.length c, .func (.func 18) #[] #[.pointer (some ⟨Bl, 0, none⟩)], .agg #[.int .i64 x.1, .int .i64 x.2], undef, undef, undef, undef, undef, undef, undef, undef, undef, undef, undef, undef, undef, undef, undef, undef, undef, undef, undef, undef], defers := [] })
    (fun W x => W.alloc (.cells #[.int .i64 x.1, .int .i64 x.2] 48)) (fun W x => (Ch.refl _ _).alloc _) ?assign ?body ?done
  case foot =>
    refine ⟨?_, ?_, ?_⟩
    · rintro pre W W' row ⟨hT, hc⟩ hg hr
      have hlt := hT4.lt
      refine ⟨hT.ch ((Ch.refl (fun k => row = some k) W).grown hg (fun k e => .inr e)) (fun e => by have := (hr t e).1; omega) (fun e => by have := (hr m e).1; omega), hc.grown hg (fun k e => .inl (hr k e).1)⟩
    · rintro pre W k ⟨hT, hc⟩ rfl
      exact hT.lt.2
    · rintro pre W W' row ⟨hT, hc⟩ hg hr k hk
      exact hk
  case keep =>
    rintro pre W ⟨hT, hc⟩
    exact ⟨cellOf (hc.heap kl hm5.2) 0 rfl, (hsl4.ch hc (fun k e => by have : k = m := e; omega)).more (fun k e => e.elim), hW4.ch hc hgm⟩
  case assign =>
    intro l' x W K hK
    simp only [encL]
    gi_wp2
    simpa using hK
  case body =>
    rintro l' pre x rest W0 W hxs hsz0 hcells hszW ⟨hT, hc⟩
    obtain ⟨x1, x2⟩ := x
    have k6 := hcells W0.heap.size _ (heap_alloc_new _ _) rfl
    obtain ⟨B6, hB6⟩ : ∃ z, z = W0.heap.size := ⟨_, rfl⟩
    rw [← hB6] at k6 ⊢
    have y0 := cellOf k6 0 rfl
    have y1 := cellOf k6 1 rfl
    have z5 := cellOf (hc.heap k54 hm5.1) 0 rfl
    have hx2 := hlt2 (x1, x2) (by rw [hxs]; simp)
    simp only at hx2 y0 y1
    have ha := tally_Add W t m _ x2 1 hT (show _ ∧ _ from by omega) (show _ ∧ _ from by omega)
    have hT2 := tally_snoc (pre.map (·.2)) x2
    have hmp : (pre ++ [(x1, x2)]).map (·.2) = pre.map (·.2) ++ [x2] := by simp
    rw [← hmp] at hT2
    rw [← hT2] at ha
    have hlt := hT.lt
    have HT := Lib.hid hT2
    clear hT2 hmp hxs hcells hszW hsz0 hB6 k6
    gi_wp2
    refine ⟨trivial, ?_⟩
    refine (callsIn_wide.2 ha).mono ?_
    rintro e W9 ⟨rfl, hT9, hc9⟩
    gi_wp2
    exact ⟨KeepsBut.ch hc9 (fun k e => e) (fun k e => .inl e), hT9, hc.trans hc9⟩
  case done =>
    rintro D W hD ⟨hT, hc⟩ hK hS
    rw [← HT0.out] at hT
    have hDs := heap_lt hK
    have hDm : D ≠ m := fun e => hS e
    have hsw : w.heap.size ≤ w4'.heap.size := hC4.size
    gi_wp2
    gi_loopw [20] (fun v wr => ∃ (i : Nat), i ≤ rs.length ∧ v = .int .i64 i ∧ TallyAt wr t m (tIns ((links l).map (·.2)) l rs i) ∧ Ch (One m) w4' wr ∧ wr.heap[D]? = some (.deferred (some []))) (fun v _ => rs.length - (intOf v).toNat)
    case atStart => exact ⟨0, by omega, rfl, hT, hc, hK⟩
    case round =>
      obtain ⟨i, hi, rfl, hT, hc, hK⟩ := hrel
      have z5 := cellOf (hc.heap k54 hm5.1) 0 rfl
      by_cases hlt : i < rs.length
      · have hrl := (hrr4.ch hc (fun k e => by have : k = m := e; omega)).more (F' := No) (fun k e => e.elim)
        have hsr := (hsl4.ch hc (fun k e => by have : k = m := e; omega)).more (F' := No) (fun k e => e.elim)
        obtain ⟨b, off, rfl, _, _, d0, iv⟩ := hrl.int_at i hlt
        have hnx := tIns_next ((links l).map (·.2)) (l := l) hlt
        have htb := tgt_bd hl.r rs[i]
        have htg := sweep_Target No wr q c l rs[i] hsr hln iv
        obtain ⟨v, hv⟩ : ∃ z, z = rs[i] := ⟨_, rfl⟩
        rw [← hv] at d0 iv hnx htb htg
        obtain ⟨T, hTT⟩ : ∃ z, z = tgt l v := ⟨_, rfl⟩
        rw [← hTT] at hnx htb htg
        have hTlt := hT.lt
        by_cases hpos : T > 0
        · have b1 : decide (T > 0) = true := decide_eq_true hpos
          rw [if_pos hpos] at hnx
          have ha := fun W' (hh : TallyAt W' t m _) => tally_Add W' t m (tIns ((links l).map (·.2)) l rs i) T 1 hh (show _ ∧ _ from by omega) (show _ ∧ _ from by omega)
          rw [← hnx] at ha
          have HN := Lib.hid hnx
          clear hnx hv hTT hpos hsr hrl
          gi_wp2
          refine ⟨trivial, ?_⟩
          refine (callsIn_wide.2 htg).mono ?_
          rintro e W8 ⟨rfl, hc8⟩
          have z5 := hc8.cell z5 (fun e => e)
          gi_wp2
          refine ⟨trivial, ?_⟩
          refine (callsIn_wide.2 (ha W8 (hT.ch0 hc8))).mono ?_
          rintro e W9 ⟨rfl, hT9, hc9⟩
          gi_wp2
          go_roundw
          case rel => exact ⟨i + 1, by omega, by go_num, hT9, (hc.then0 hc8).trans hc9, hc9.heap (hc8.heap hK (fun e => e)) (fun e => hDm e)⟩
          case measure => exact meas_lt (by omega)
        · have b1 : decide (T > 0) = false := decide_eq_false hpos
          rw [if_neg hpos] at hnx
          have HN := Lib.hid hnx
          clear hnx hv hTT hpos hsr hrl
          gi_wp2
          refine ⟨trivial, ?_⟩
          refine (callsIn_wide.2 htg).mono ?_
          rintro e W8 ⟨rfl, hc8⟩
          gi_wp2
          go_roundw
          case rel => exact ⟨i + 1, by omega, by go_num, by rw [HN.out]; exact hT.ch0 hc8, hc.then0 hc8, hc8.heap hK (fun e => e)⟩
          case measure => exact meas_lt (by omega)
      · obtain rfl : i = rs.length := by omega
        rw [HTI.out] at hT
        have hTlt := hT.lt
        gi_wp2
        refine ⟨by simp, .inl ⟨_, _, rfl, run_takeDeferred hK, ?_⟩⟩
        have hcD : Ch (fun k => k = D) wr (wr.putObj D (.deferred none)) := (Ch.refl _ _).grown (grownBy_putObj' wr D _) (fun k e => by cases e; exact .inr rfl)
        have hDt : D ≠ t := fun e => by have := hT4.lt; omega
        refine ⟨_, results_tmp rfl _ _ _, t, m, rfl, hT.ch hcD (fun e => hDt e.symm) (fun e => hDm e.symm), ht, hm, ?_⟩
        exact (hC4.andThen hc (fun k e => .inr (by have : k = m := e; omega))).andThen hcD (fun k e => .inr (by omega))

theorem sweep_Incoming (w : World) (q qr : Option Addr) (c cr : Nat) (l : List Ob) (rs : List Int) (r : Int) (h : SlR objRp No w q c l) (h2 : SlR (intRp .u64) No w qr cr rs) (hl : Fits l) (hrs : rs.length ≤ 60) (hW : Wt w) :
    Calls Tryd.prog 8 #[.slice q l.length c, .slice qr rs.length cr, .int .i64 r] w fun e w' => e = .returned (.int .i64 (cnt (tally (ins_ l rs)) r)) ∧ Ch No w w' := by
  have ha := sweep_all w q qr c cr l rs h h2 hl hrs hW
  obtain ⟨T, hT⟩ : ∃ z, z = tally (ins_ l rs) := ⟨_, rfl⟩
  rw [← hT] at ha ⊢
  clear hT
  go_enter Tryd.func8, Tryd.ntmps8
  go_wp2_with fail
  with_reducible refine ha.mono ?_
  rintro e w2 ⟨t, m, rfl, hT2, _, _, hc2⟩
  dsimp only
  go_wp2_with fail
  with_reducible refine (tally_Of w2 t m T r hT2).mono ?_
  rintro e w3 ⟨rfl, rfl⟩
  dsimp only
  go_wp2_with fail
  go_ret
  exact ⟨rfl, hc2⟩

theorem sweep_Counts (F : Nat → Prop) (w : World) (q qr : Option Addr) (c cr : Nat) (l : List Ob) (rs : List Int) (h : SlR objRp No w q c l) (h2 : SlR (intRp .u64) No w qr cr rs) (hl : Fits l) (hrs : rs.length ≤ 60) (hW : Wt w) (hF : ∀ k, F k → k < w.heap.size) :
    Calls Tryd.prog 11 #[.slice q l.length c, .slice qr rs.length cr] w fun e w' => ∃ q' c', e = .returned (.slice q' (tally (ins_ l rs)).length c') ∧ SlR (pairRp .i64) F w' q' c' (tally (ins_ l rs)) ∧ Ch No w w' := by
  have ha := sweep_all w q qr c cr l rs h h2 hl hrs hW
  have hlen := tally_len (ins_ l rs)
  have hin := (ins_ok hl rs hrs).2
  obtain ⟨T, hT⟩ : ∃ z, z = tally (ins_ l rs) := ⟨_, rfl⟩
  rw [← hT] at ha hlen ⊢
  clear hT
  go_enter Tryd.func11, Tryd.ntmps11
  go_wp2_with fail
  with_reducible refine ha.mono ?_
  rintro e w2 ⟨t, m, rfl, hT2, _, _, hc2⟩
  have hal := tally_All F w2 t m T hT2 (by omega) (fun k e => by have := hF k e; have := hc2.size; omega)
  dsimp only
  go_wp2_with fail
  with_reducible refine hal.mono ?_
  rintro e w3 ⟨q', c', rfl, hs, hc3⟩
  dsimp only
  go_wp2_with fail
  go_ret
  exact ⟨q', c', rfl, hs, hc2.trans hc3⟩
end Go.Proofs.YtdmhenanikkabaaDoor

/- Layer 5 (tree): the walk's contract. -/
import Derived.Test.YtinjbonodlkafaaDoorTreeWalk
set_option linter.unusedVariables false
set_option linter.unusedSimpArgs false
namespace Go.Proofs.YtinjbonodlkafaaDoor
open Go Go.RowKit Go.Shelf

attribute [local go_sem] Oper.semAt_some

def mark (r : Nat) : Deferred := { target := .collected r, args := #[] }

set_option maxRecDepth 100000 in
set_option maxHeartbeats 4000000 in
theorem walk_seq (t m n : Nat) (L : TRows) (ok : TreeOk L n) (hl : L.length ≤ 100000) : ∀ (id : Int) (B1 B2 : Nat),
    SeqR Tryd.prog 34 #[.pointer (some ⟨B1, 0, none⟩), .pointer (some ⟨B2, 0, none⟩)] (fun i : Int => #[.int .i64 i]) (WalkA t m L B1 B2 id) (sub L id) := by
  refine tree_ind ok (fun id ih B1 B2 => ?_)
  intro l J S W hF hA h0 hround
  obtain ⟨Y, hY⟩ : ∃ z, z = W.heap.size := ⟨_, rfl⟩
  obtain ⟨Wb, hWb⟩ : ∃ z, z = W.alloc (.cells #[.func (.yield l) #[] #[]] 58) := ⟨_, rfl⟩
  have hcb : Ch No W Wb := by rw [hWb]; exact (Ch.refl _ _).alloc _
  have hJb : J [] Wb := by rw [hWb]; exact hF.own.alloc _ h0
  have hSb : ∀ k, S Wb k → S W k := hF.st [] W Wb none h0 hcb.grow0 (fun r e => by cases e)
  have kY : Wb.heap[Y]? = some (.cells #[.func (.yield l) #[] #[]] 58 (0, 0)) := by rw [hWb, hY]; exact World.alloc_heap_new _ _
  have hYS : ¬ S Wb Y := fun z => by have := hF.lt [] W Y h0 (hSb _ z); omega
  obtain ⟨htr, c1, c2⟩ := hA _ _ hJb
  have hkd := tree_Kids (S Wb) Wb t m n L id htr ok hl (fun k z => hF.lt [] Wb k hJb z)
  have d1 := c1
  have d2 := c2
  rw [hWb] at d1 d2
  have HWB := Lib.hid hWb
  have HYB := Lib.hid hY
  clear htr hWb hY
  refine callsIn_of_wp_marks Tryd.func34 rfl trivial ?_ rfl
  simp only [Tryd.ntmps34, List.size_toArray, List.length_cons, List.length_nil, Nat.reduceAdd, Nat.reduceSub, Array.replicate_succ, Array.replicate_zero, List.push_toArray, List.append_toArray, List.nil_append, List.cons_append]
  gi_wp2
  refine ⟨trivial, ?_⟩
  rw [← HWB.out, ← HYB.out]
  refine (callsIn_wide.2 hkd).mono ?_
  rintro e W2 ⟨q, c, rfl, hs2, hc2⟩
  have hS2 : ∀ k, S W2 k → S Wb k := hF.st [] Wb W2 none hJb hc2.grow0 (fun r e => by cases e)
  have hJ2 : J [] W2 := hF.own [] Wb W2 none hJb hc2.grow0 (fun r e => by cases e)
  have hsz2 : W.heap.size ≤ W2.heap.size := Nat.le_trans hcb.size hc2.size
  have kY2 := hc2.heap kY (fun z => z)
  obtain ⟨ks, hks⟩ : ∃ z, z = kids L id := ⟨_, rfl⟩
  rw [← hks] at hs2 ih
  have hsub : sub L id = ks.flatMap fun k => k :: sub L k := by rw [hks]; exact sub_eq ok id
  have hloc : ∃ ls, LocAt ls S W2 ∧ ∀ w, LocAt ls S w → w.cell? ⟨Y, 0, none⟩ = some (.func (.yield l) #[] #[]) ∧ ∀ i (hi : i < ks.length), ∃ b off, q = some ⟨b, off, none⟩ ∧ w.cell? ⟨b, off + i, none⟩ = some (.int .i64 ks[i]) := by
    have l0 : LocAt [] S W2 := fun x hx => by cases hx
    have l1 := l0.cons kY2 (fun z => hYS (hS2 _ z))
    by_cases hk0 : 0 < ks.length
    · obtain ⟨b, off, hq, hnb, _, d0, _⟩ := hs2.int_at 0 hk0
      obtain ⟨o, ho⟩ := cell_block d0
      refine ⟨_, l1.cons ho (fun z => hnb (hS2 _ z)), fun w hw => ?_⟩
      have e1 := (hw _ (List.mem_cons_self)).1
      have e2 := (hw _ (List.mem_cons_of_mem _ (List.mem_cons_self))).1
      refine ⟨cellOf e2 0 rfl, fun i hi => ?_⟩
      obtain ⟨b', off', hq', _, _, di, _⟩ := hs2.int_at i hi
      rw [hq] at hq'
      have := Option.some.inj hq'
      injection this with h1 h2 h3
      subst h1 h2
      exact ⟨b, off, hq, by rw [cell_same (w := W2) (e1.trans ho.symm)]; exact di⟩
    · exact ⟨_, l1, fun w hw => ⟨cellOf (hw _ (List.mem_cons_self)).1 0 rfl, fun i hi => absurd hi (by omega)⟩⟩
  obtain ⟨ls, hls2, hread⟩ := hloc
  have hlsW : ∀ w, LocAt ls S w → True := fun _ _ => trivial
  simp only [← hks]
  obtain ⟨N, hN⟩ : ∃ z, z = ks.length := ⟨_, rfl⟩
  simp only [← hN]
  have HN := Lib.hid hN
  clear kY kY2 hs2 hc2 hcb c1 c2 d1 d2 hkd hJb hS2 hSb hYS h0 hN
  gi_wp2
  refine wpIn_loop (fun a' w' => ∃ (i : Nat) (rs : List Nat) (u5 u6 u12 u13 u14 u15 u16 u17 u18 u19 u20 u21 u22 u23 u24 u25 u26 u27 : Value), a' = { tmps := #[.func (.yield l) #[] #[], .pointer (some ⟨B1, 0, none⟩), .pointer (some ⟨B2, 0, none⟩), .pointer (some ⟨Y, 0, none⟩), undef, u5, u6, .pointer (some ⟨t, 0, none⟩), .int .i64 id, .slice q N c, .int .i64 N, .int .i64 i, u12, u13, u14, u15, u16, u17, u18, u19, u20, u21, u22, u23, u24, u25, u26, u27], defers := rs.map mark } ∧ i ≤ N ∧ J ((ks.take i).flatMap fun k => k :: sub L k) w' ∧ LocAt ls S w' ∧ LocAt (rs.map fun r => (r, Obj.deferred (some []))) S w' ∧ rs.Nodup ∧ (∀ r ∈ rs, W.heap.size ≤ r) ∧ W.heap.size ≤ w'.heap.size) (fun a' _ => N - (intOf (a'.tmps.getD 11 undef)).toNat) ?_ ?_
  · exact ⟨0, [], undef, undef, undef, undef, undef, undef, undef, undef, undef, undef, undef, undef, undef, undef, undef, undef, undef, undef, rfl, by omega, hJ2, hls2, (fun x hx => by cases hx), List.nodup_nil, (fun x hx => by cases hx), hsz2⟩
  clear hJ2 hls2 hsz2 HWB
  rintro _ wr ⟨i, rs, u5, u6, u12, u13, u14, u15, u16, u17, u18, u19, u20, u21, u22, u23, u24, u25, u26, u27, rfl, hi, hJ, hlc, hmk, hnd, hrs, hszr⟩
  obtain ⟨hyc, hrd⟩ := hread wr hlc
  obtain ⟨htr, c1, c2⟩ := hA _ _ hJ
  have hNk := HN.out
  have hN5 : N ≤ 100000 := by rw [hNk, hks]; exact Nat.le_trans (kids_length L id) hl
  by_cases hlt : i < N
  · obtain ⟨b, off, rfl, d0⟩ := hrd i (by omega)
    have hik : i < ks.length := by omega
    have hkm : ks[i] ∈ ks := List.getElem_mem hik
    have hsp : ks.flatMap (fun k => k :: sub L k) = (ks.take i).flatMap (fun k => k :: sub L k) ++ ks[i] :: (sub L ks[i] ++ (ks.drop (i + 1)).flatMap fun k => k :: sub L k) := by
      have h1 : ks = ks.take i ++ ks[i] :: ks.drop (i + 1) := by rw [← List.drop_eq_getElem_cons hik, List.take_append_drop]
      have h2 := congrArg (List.flatMap (fun k => k :: sub L k)) h1
      rw [h2, List.flatMap_append, List.flatMap_cons]
      rfl
    have htk : (ks.take (i + 1)).flatMap (fun k => k :: sub L k) = (ks.take i).flatMap (fun k => k :: sub L k) ++ [ks[i]] ++ sub L ks[i] := by
      rw [List.take_succ_eq_append_getElem hik, List.flatMap_append, List.flatMap_cons, List.flatMap_nil]; simp only [List.append_nil, List.append_assoc, List.singleton_append]
    obtain ⟨kd, hkd⟩ : ∃ z, z = ks[i] := ⟨_, rfl⟩
    obtain ⟨pre, hpre⟩ : ∃ z, z = (ks.take i).flatMap (fun k => k :: sub L k) := ⟨_, rfl⟩
    obtain ⟨post, hpost⟩ : ∃ z, z = (ks.drop (i + 1)).flatMap fun k => k :: sub L k := ⟨_, rfl⟩
    rw [← hkd] at d0 hkm hsp htk
    rw [← hpre] at hsp htk hJ
    rw [← hpost, ← hsub] at hsp
    have hih := ih kd hkm
    obtain ⟨fn, tmps, assign, body, hyl, hR⟩ := hround pre kd (sub L kd ++ post) wr hsp hszr hJ
    have HS := Lib.hid hsp; have HT := Lib.hid htk
    clear hkd hpre hpost hsp htk hNk
    gi_wp2
    refine hR.mono ?_
    rintro e W3 ⟨rfl, hJ3, hK3⟩
    have hlc3 := hlc.keeps hK3
    have hmk3 := hmk.keeps hK3
    have hsz3 : W.heap.size ≤ W3.heap.size := Nat.le_trans hszr hK3.size
    obtain ⟨hyc3, _⟩ := hread W3 hlc3
    obtain ⟨htr3, c1, c2⟩ := hA _ _ hJ3
    clear hyc c1 c2 hlc hmk d0 htr hrd hyl hR
    obtain ⟨htr3, c1, c2⟩ := hA _ _ hJ3
    gi_wp2
    refine ⟨trivial, ?_⟩
    refine (callsIn_wide.2 (tree_walk W3 t kd)).mono ?_
    rintro e W4 ⟨rfl, hw4⟩
    obtain ⟨C1, hC1⟩ : ∃ z, z = W3.heap.size := ⟨_, rfl⟩
    have k1 : W4.heap[C1]? = some (.cells #[.pointer (some ⟨t, 0, none⟩)] 24 (0, 0)) := by
      rw [hw4, hC1]
      exact (Below.heap_alloc _ _ _ (by simp)).trans (World.alloc_heap_new _ _)
    have k2 : W4.heap[C1 + 1]? = some (.cells #[.int .i64 kd] 3 (0, 0)) := by
      rw [hw4, hC1]
      have := World.alloc_heap_new (W3.alloc (.cells #[.pointer (some ⟨t, 0, none⟩)] 24)) (.cells #[.int .i64 kd] 3)
      rwa [World.size_alloc] at this
    have hc4 : Ch No W3 W4 := by rw [hw4]; exact ((Ch.refl _ _).alloc _).alloc _
    have hsz4 : W4.heap.size = C1 + 2 := by rw [hw4, hC1]; simp
    have hS4 : ∀ k, S W4 k → S W3 k := hF.st _ W3 W4 none hJ3 hc4.grow0 (fun r e => by cases e)
    have hJ4 : J (pre ++ [kd] ++ []) W4 := by rw [List.append_nil]; exact hF.own _ W3 W4 none hJ3 hc4.grow0 (fun r e => by cases e)
    have hnS : ∀ k, W3.heap.size ≤ k → ¬ S W4 k := fun k hk z => by have := hF.lt _ _ _ hJ3 (hS4 _ z); omega
    have hlc4 := hlc3.ch0 hc4 hS4
    have hmk4 := hmk3.ch0 hc4 hS4
    have hl4 : LocAt ((C1, Obj.cells #[.pointer (some ⟨t, 0, none⟩)] 24 (0, 0)) :: (C1 + 1, Obj.cells #[.int .i64 kd] 3 (0, 0)) :: (ls ++ rs.map fun r => (r, Obj.deferred (some [])))) S W4 := by
      refine LocAt.cons k1 (hnS _ (by omega)) (LocAt.cons k2 (hnS _ (by omega)) (fun x hx => ?_))
      rcases List.mem_append.1 hx with hx | hx
      · exact hlc4 x hx
      · exact hmk4 x hx
    obtain ⟨ls4, hls4⟩ : ∃ z, z = ((C1, Obj.cells #[.pointer (some ⟨t, 0, none⟩)] 24 (0, 0)) :: (C1 + 1, Obj.cells #[.int .i64 kd] 3 (0, 0)) :: (ls ++ rs.map fun r => (r, Obj.deferred (some [])))) := ⟨_, rfl⟩
    rw [← hls4] at hl4
    have hlt4 := hl4.lt
    have hsW4 : W.heap.size ≤ W4.heap.size := Nat.le_trans hsz3 hc4.size
    have hlsub : ∀ w, LocAt ls4 S w → LocAt ls S w ∧ LocAt (rs.map fun r => (r, Obj.deferred (some []))) S w ∧ w.cell? ⟨C1, 0, none⟩ = some (.pointer (some ⟨t, 0, none⟩)) ∧ w.cell? ⟨C1 + 1, 0, none⟩ = some (.int .i64 kd) := fun w hw => by
      rw [hls4] at hw
      exact ⟨fun x hx => hw x (List.mem_cons_of_mem _ (List.mem_cons_of_mem _ (List.mem_append_left _ hx))), fun x hx => hw x (List.mem_cons_of_mem _ (List.mem_cons_of_mem _ (List.mem_append_right _ hx))), cellOf (hw _ (List.mem_cons_self)).1 0 rfl, cellOf (hw _ (List.mem_cons_of_mem _ (List.mem_cons_self))).1 0 rfl⟩
    have hmark4 : ∀ r ∈ rs, r < W4.heap.size := fun r hr => hmk4.lt (r, _) (List.mem_map.2 ⟨r, hr, rfl⟩)
    rw [show (⟨W3.heap.size, 0, none⟩ : Addr) = ⟨C1, 0, none⟩ from by rw [hC1], show (⟨W3.heap.size + 1, 0, none⟩ : Addr) = ⟨C1 + 1, 0, none⟩ from by rw [hC1]]
    clear c1 c2 hC1 hw4 k1 k2 hc4 hS4 hnS hlc4 hmk4 hlc3 hmk3 hls4 htr3 hyc3 hJ3 hK3 hszr hJ
    gi_wp2
    refine wp_seqR (by omega) (gf := 34) (lb := #[.pointer (some ⟨C1, 0, none⟩), .pointer (some ⟨C1 + 1, 0, none⟩)]) rfl (enters_of Tryd.func34 (by kernel_rfl) rfl)
      (hih C1 (C1 + 1)) (fun _ => rfl)
      (fun pre' W' => J (pre ++ [kd] ++ pre') W' ∧ LocAt ls4 S W' ∧ W.heap.size ≤ W'.heap.size) S
      ?foot (fun pre' W' hi => ⟨(hA _ _ hi.1).tree, (hlsub _ hi.2.1).2.2.1, (hlsub _ hi.2.1).2.2.2⟩) ⟨hJ4, hl4, hsW4⟩
      (fun x => { tmps := #[.func (.yield l) #[] #[], .pointer (some ⟨B1, 0, none⟩), .pointer (some ⟨B2, 0, none⟩), .pointer (some ⟨Y, 0, none⟩), undef, .int .i64 kd, .int .i64 x, .pointer (some ⟨t, 0, none⟩), .int .i64 id, .slice (some ⟨b, off, none⟩) N c, .int .i64 N, .int .i64 i, .bool true, .pointer (some ⟨b, off + i, none⟩), .int .i64 kd, .func (.yield l) #[] #[], .int .i64 kd, .bool true, .bool false, .pointer (some ⟨t, 0, none⟩), .int .i64 kd, .func (.func 34) #[] #[.pointer (some ⟨C1, 0, none⟩), .pointer (some ⟨C1 + 1, 0, none⟩)], .int .i64 x, u23, u24, u25, u26, u27], defers := [] }) ?assign ?body ?done
    case foot =>
      have hM := hF.mono hsW4
      refine ⟨fun s X Y row hs hg hr => ⟨hM.own _ X Y row hs.1 hg hr, fun x hx => ?_, Nat.le_trans hs.2.2 hg.size⟩, fun p X k hj hk => hF.lt _ X k hj.1 hk, fun p X Y row hj hg hr => hM.st _ X Y row hj.1 hg hr⟩
      have hxl := hlt4 x hx
      refine ⟨(hg.block x.1 (heap_lt (hs.2.1 x hx).1) (fun e => by have := (hr x.1 e.symm).1; omega)).trans (hs.2.1 x hx).1, fun z => (hs.2.1 x hx).2 (hM.st _ X Y row hs.1 hg hr _ z)⟩
    case assign =>
      intro l' x W' K hK
      gi_wp2
      exact hK
    case body =>
      rintro l' pre' x rest W' hxs hge ⟨hJ', hl', hsz'⟩
      have hsp' : sub L id = (pre ++ [kd] ++ pre') ++ x :: (rest ++ post) := by rw [HS.out, hxs]; simp
      obtain ⟨fn, tmps, assign, body, hyl, hR⟩ := hround _ x _ W' hsp' hsz' hJ'
      obtain ⟨hyc', _⟩ := hread W' (hlsub _ hl').1
      clear hsp' hxs hge
      gi_wp2
      refine (RoundIn.inRound hR).mono ?_
      rintro e W9 ⟨rfl, hJ9, hK9⟩
      gi_wp2
      exact ⟨hK9, by rw [← List.append_assoc]; exact hJ9, hl'.keeps hK9, Nat.le_trans hsz' hK9.size⟩
    case done =>
      rintro D W' hD ⟨hJ', hl', hsz'⟩ hDm hDS
      obtain ⟨q1, q2, _, _⟩ := hlsub _ hl'
      have hDr : D ∉ rs := fun z => by have := hmark4 D z; omega
      have hwr : IntKind.i64.wrap ((i : Int) + 1) = ((i + 1 : Nat) : Int) := by rw [IntWalk.i64_in _ (by omega)]; omega
      gi_wp2
      refine ⟨⟨i + 1, D :: rs, _, _, _, _, _, _, _, _, _, _, _, _, _, _, _, _, _, _, rfl, by omega, by rw [HT.out]; exact hJ', q1, LocAt.cons hDm hDS q2, List.nodup_cons.2 ⟨hDr, hnd⟩, fun r hr => ?_, hsz'⟩, ?_⟩
      · rcases List.mem_cons.1 hr with rfl | hr
        · omega
        · exact hrs r hr
      · exact meas_lt (by omega)
  · obtain rfl : i = N := by omega
    have hJe : J (sub L id) wr := by rw [hsub]; rw [List.take_of_length_le (by omega)] at hJ; exact hJ
    gi_wp2
    refine marks_leave (v := .tuple #[]) (fun w => results_none rfl _ _ _) (B := W.heap.size) (J := fun w => J (sub L id) w) (fun w r hj hb hd => hF.own.putObj _ hj hb hd rfl) (fun w hj => ⟨⟨_, rfl⟩, hj⟩) rs wr hnd (fun r hr => ⟨hrs r hr, (hmk (r, _) (List.mem_map.2 ⟨r, hr, rfl⟩)).1⟩) hJe
end Go.Proofs.YtinjbonodlkafaaDoor

/- Layer 18 (sweep): links, what it hands on. -/
import Derived.Test.YtdmhenanikkabaaDoorSweep
import Derived.Test.YtdmhenanikkabaaDoorOnly
import Derived.Deep.RegionHeld3
set_option linter.unusedVariables false
set_option linter.unusedSimpArgs false
namespace Go.Proofs.YtdmhenanikkabaaDoor
open Go Go.RowKit Go.Shelf

attribute [local go_sem] Oper.semAt_some

structure LinksA (q : Option Addr) (c : Nat) (l : List Ob) (Bl : Nat) (W : World) : Prop where
  box : W.cell? ⟨Bl, 0, none⟩ = some (.slice q l.length c)
  sl : SlR objRp No W q c l
  wt : Wt W
theorem LinksA.ch0 {q : Option Addr} {c : Nat} {l : List Ob} {Bl : Nat} {W W' : World} (h : LinksA q c l Bl W) (hc : Ch No W W') : LinksA q c l Bl W' := ⟨hc.cell h.box (fun e => e), h.sl.ch0 hc, h.wt.ch0 hc⟩
def encL (x : Int × Int) : Array Value := #[.agg #[.int .i64 x.1, .int .i64 x.2]]

theorem take_flat {α β : Type} {l : List α} {f : α → List β} {i : Nat} (h : i < l.length) : (l.take (i + 1)).flatMap f = (l.take i).flatMap f ++ f l[i] := by
  rw [List.take_succ_eq_append_getElem h, List.flatMap_append]
  simp
theorem split_flat {α β : Type} {l : List α} {f : α → List β} {i : Nat} (h : i < l.length) : l.flatMap f = (l.take i).flatMap f ++ f l[i] ++ (l.drop (i + 1)).flatMap f := by
  have h1 : l = l.take i ++ l[i] :: l.drop (i + 1) := by rw [← List.drop_eq_getElem_cons h, List.take_append_drop]
  have h2 := congrArg (List.flatMap f) h1
  rw [h2, List.flatMap_append, List.flatMap_cons, List.append_assoc]

set_option maxRecDepth 100000 in
set_option maxHeartbeats 4000000 in
theorem links_seq (q : Option Addr) (c : Nat) (l : List Ob) (Bl : Nat) (hl : Fits l) :
    SeqR Tryd.prog 18 #[.pointer (some ⟨Bl, 0, none⟩)] encL (LinksA q c l Bl) (links l) := by
  intro lv J S W hF hA h0 hround
  obtain ⟨cbox, _, _⟩ := hA _ _ h0
  have hln := hl.n
  refine callsIn_of_wp Tryd.func18 rfl trivial ?_ rfl
  simp only [Tryd.ntmps18, List.size_toArray, List.length_cons, List.length_nil, Nat.reduceAdd, Nat.reduceSub, Array.replicate_succ, Array.replicate_zero, List.push_toArray, List.append_toArray, List.nil_append, List.cons_append]
  refine wpIn_scopeW ?_
  gi_wp2
  refine wpIn_labelW ?_
  gi_wp2
  gi_loopw [10] (fun v wr => ∃ (i : Nat), i ≤ l.length ∧ v = .int .i64 i ∧ J ((l.take i).flatMap (oLinks l)) wr ∧ W.heap.size ≤ wr.heap.size) (fun v _ => l.length - (intOf v).toNat)
  case atStart => exact ⟨0, by omega, rfl, h0, Nat.le_refl _⟩
  case round =>
    obtain ⟨io, hio, rfl, hJ, hsz⟩ := hrel
    by_cases hlt : io < l.length
    · obtain ⟨cb, hsl, hwt⟩ := hA _ _ hJ
      obtain ⟨b, off, rfl, _, _, hcs, ia, ir, _, _⟩ := hsl.obj_at io hlt
      have hko := hl.k _ (List.getElem_mem hlt)
      have hsp := split_flat (f := oLinks l) hlt
      have htk := take_flat (f := oLinks l) hlt
      obtain ⟨o, ho⟩ : ∃ z, z = l[io] := ⟨_, rfl⟩
      rw [← ho] at hcs ia ir hko hsp htk
      have d0 := hcs 0 _ rfl
      have d1 := hcs 1 _ rfl
      have d2 := hcs 2 _ rfl
      have d3 := hcs 3 _ rfl
      have d4 := hcs 4 _ rfl
      have d5 := hcs 5 _ rfl
      have d6 := hcs 6 _ rfl
      have d7 := hcs 7 _ rfl
      rw [Nat.add_zero] at d0
      obtain ⟨C4, hC4⟩ : ∃ z, z = wr.heap.size := ⟨_, rfl⟩
      obtain ⟨w4, hw4⟩ : ∃ z, z = wr.alloc (.cells o.cells.toArray 30) := ⟨_, rfl⟩
      have hc4 : Ch No wr w4 := by rw [hw4]; exact (Ch.refl _ _).alloc _
      have k4 : w4.heap[C4]? = some (.cells o.cells.toArray 30 (0, 0)) := by rw [hw4, hC4]; exact heap_alloc_new _ _
      have hS4 : ∀ k, S w4 k → S wr k := hF.st _ wr w4 none hJ hc4.grow0 (fun r e => by cases e)
      have hJ4 : J ((l.take io).flatMap (oLinks l)) w4 := hF.own _ wr w4 none hJ hc4.grow0 (fun r e => by cases e)
      have hL4 : LocAt [(C4, .cells o.cells.toArray 30 (0, 0))] S w4 := fun x hx => by
        rw [List.mem_singleton.1 hx]
        exact ⟨k4, fun z => by have := hF.lt _ _ _ hJ (hS4 _ z); simp only at this; omega⟩
      have hsz4 : W.heap.size ≤ w4.heap.size := Nat.le_trans hsz hc4.size
      obtain ⟨P0, hP0⟩ : ∃ z, z = (l.take io).flatMap (oLinks l) := ⟨_, rfl⟩
      obtain ⟨P1, hP1⟩ : ∃ z, z = (l.drop (io + 1)).flatMap (oLinks l) := ⟨_, rfl⟩
      rw [← hP0] at hsp htk hJ4
      rw [← hP1, show l.flatMap (oLinks l) = links l from rfl] at hsp
      simp only [Ob.cells] at hw4 k4 hL4
      have HC := Lib.hid hC4
      have HW := Lib.hid hw4
      have HS := Lib.hid hsp
      have HT := Lib.hid htk
      have HO := Lib.hid ho
      clear hcs hC4 hw4 hsp htk ho hP0 hP1 hc4 hS4 hJ cb hsl hwt k4
      gi_wp2
      rw [← HW.out, ← HC.out]
      gi_loopw [17] (fun v wr => ∃ (i : Nat), i ≤ o.kinds.length ∧ i ≤ o.vals.length ∧ v = .int .i64 i ∧ J (P0 ++ ((o.kinds.zip o.vals).take i).flatMap (lk l o.reg)) wr ∧ LocAt [(C4, .cells #[.int .i64 o.at_, .int .i64 o.reg, .bool o.arr, .int .i64 o.hk, .int .i64 o.ht, .int .i64 o.hn, .slice o.ka o.kinds.length o.kc, .slice o.va o.vals.length o.vc] 30 (0, 0))] S wr ∧ W.heap.size ≤ wr.heap.size) (fun v _ => o.kinds.length - (intOf v).toNat)
      case atStart => exact ⟨0, by omega, by omega, rfl, by simpa using hJ4, hL4, hsz4⟩
      case round =>
        obtain ⟨i, hik, hiv, rfl, hJ, hL, hszr⟩ := hrel
        have k4 := (hL _ (List.mem_singleton.2 rfl)).1
        simp only at k4
        have z6 := cellOf k4 6 rfl
        have z7 := cellOf k4 7 rfl
        clear k4
        obtain ⟨cb, hsl, hwt⟩ := hA _ _ hJ
        obtain ⟨b9, o9, hq9, _, _, _, _, _, hkr, hvr⟩ := hsl.obj_at io hlt
        clear hq9
        rw [← HO.out] at hkr hvr
        have hzl : (o.kinds.zip o.vals).length = min o.kinds.length o.vals.length := by rw [List.length_zip]
        by_cases hki : i < o.kinds.length
        · obtain ⟨bk, ok', hka, _, _, dk, ik⟩ := hkr.int_at i hki
          by_cases hvi : i < o.vals.length
          · obtain ⟨bv, ov, hva, _, _, dv, iv⟩ := hvr.int_at i hvi
            have hzi : i < (o.kinds.zip o.vals).length := by rw [hzl]; omega
            have hz2 := split_flat (f := lk l o.reg) hzi
            have hz3 := take_flat (f := lk l o.reg) hzi
            rw [List.getElem_zip] at hz2 hz3
            obtain ⟨k, hk⟩ : ∃ z, z = o.kinds[i]'hki := ⟨_, rfl⟩
            obtain ⟨v, hv⟩ : ∃ z, z = o.vals[i]'hvi := ⟨_, rfl⟩
            rw [← hk] at dk ik hz2 hz3
            rw [← hv] at dv iv hz2 hz3
            obtain ⟨Z0, hZ0⟩ : ∃ z, z = ((o.kinds.zip o.vals).take i).flatMap (lk l o.reg) := ⟨_, rfl⟩
            obtain ⟨Z1, hZ1⟩ : ∃ z, z = ((o.kinds.zip o.vals).drop (i + 1)).flatMap (lk l o.reg) := ⟨_, rfl⟩
            rw [← hZ0] at hz2 hz3 hJ
            rw [← hZ1, show (o.kinds.zip o.vals).flatMap (lk l o.reg) = oLinks l o from rfl] at hz2
            have htb := tgt_bd hl.r v
            have ht := fun W' (hc : Ch No wr W') => sweep_Target No W' _ c l v (hsl.ch0 hc) hln iv
            have hlkE : lk l o.reg (k, v) = if k = 1 ∧ tgt l v ≠ 0 ∧ tgt l v ≠ o.reg then [(o.reg, tgt l v)] else [] := rfl
            obtain ⟨T, hT⟩ : ∃ z, z = tgt l v := ⟨_, rfl⟩
            simp only [← hT] at ht hlkE htb
            have HZ2 := Lib.hid hz2
            have HZ3 := Lib.hid hz3
            have HLK := Lib.hid hlkE
            rw [hva] at z7
            rw [hka] at z6
            have hcd : Ch No wr wr.drew := (Ch.refl _ _).drew
            have K7 : ∀ W', Ch No wr W' → (fun w' : World => w'.cell? ⟨Bl, 0, none⟩ = some (.slice (some ⟨b, off, none⟩) l.length c) ∧ w'.cell? ⟨C4, 7, none⟩ = some (.slice (some ⟨bv, ov, none⟩) o.vals.length o.vc) ∧ w'.cell? ⟨bv, ov + i, none⟩ = some (.int .u64 v)) W' := fun W' hc => ⟨hc.cell cb (fun e => e), hc.cell z7 (fun e => e), hc.cell dv (fun e => e)⟩
            have b1 : decide ((i : Int) ≥ (o.vals.length : Int)) = false := decide_eq_false (by omega)
            have HKA := Lib.hid hka
            clear hz2 hz3 hlkE hk hv hZ0 hZ1 hT hva hka hkr hvr hsl hwt hzl hzi
            rw [HKA.out]
            gi_wp2
            refine wpIn_onlyN ?_
            refine wpIn_wide.2 ?_
            refine wp_region_held_drew (S := (fun w' : World => w'.cell? ⟨Bl, 0, none⟩ = some (.slice (some ⟨b, off, none⟩) l.length c) ∧ w'.cell? ⟨C4, 7, none⟩ = some (.slice (some ⟨bv, ov, none⟩) o.vals.length o.vc) ∧ w'.cell? ⟨bv, ov + i, none⟩ = some (.int .u64 v))) (by kernel_rfl) (K7 _ hcd) (fun hHeld => ?_)
            refine wpAnyH_take (i := 0) (v := ?_) (by simp only [List.getElem?_toArray, List.getElem?_cons_zero, List.getElem?_cons_succ]; exact rfl) (by kernel_rfl) (by kernel_rfl) (by kernel_rfl) (by intro _ _ _ h; exact h) (Or.inl ⟨by rfl, ?_⟩) (by assumption) ?_
            rotate_left
            · intro w hSw
              (try dsimp only at hSw)
              go_simp
              try (with_reducible rfl)
            try simp only [Act.put, List.setIfInBounds_toArray, List.set_cons_zero, List.set_cons_succ]
            refine wpAnyH_take (i := 1) (v := ?_) (by simp only [List.getElem?_toArray, List.getElem?_cons_zero, List.getElem?_cons_succ]; exact rfl) (by kernel_rfl) (by kernel_rfl) (by kernel_rfl) (by intro _ _ _ h; exact h) (Or.inl ⟨by rfl, ?_⟩) (by assumption) ?_
            rotate_left
            · intro w hSw
              (try dsimp only at hSw)
              go_simp
              try (with_reducible rfl)
            try simp only [Act.put, List.setIfInBounds_toArray, List.set_cons_zero, List.set_cons_succ]
            refine wpAnyH_take (i := 2) (v := ?_) (by simp only [List.getElem?_toArray, List.getElem?_cons_zero, List.getElem?_cons_succ]; exact rfl) (by kernel_rfl) (by kernel_rfl) (by kernel_rfl) (by intro _ _ _ h; exact h) (Or.inl ⟨by rfl, ?_⟩) (by assumption) ?_
            rotate_left
            · intro w hSw
              (try dsimp only at hSw)
              go_simp
              try (with_reducible rfl)
            try simp only [Act.put, List.setIfInBounds_toArray, List.set_cons_zero, List.set_cons_succ]
            refine wpAnyH_take (i := 3) (v := ?_) (by simp only [List.getElem?_toArray, List.getElem?_cons_zero, List.getElem?_cons_succ]; exact rfl) (by kernel_rfl) (by kernel_rfl) (by kernel_rfl) (by intro _ _ _ h; exact h) (Or.inl ⟨by rfl, ?_⟩) (by assumption) ?_
            rotate_left
            · intro w hSw
              (try dsimp only at hSw)
              go_simp
              try (with_reducible rfl)
            try simp only [Act.put, List.setIfInBounds_toArray, List.set_cons_zero, List.set_cons_succ]
            refine wpAnyH_take (i := 4) (v := ?_) (by simp only [List.getElem?_toArray, List.getElem?_cons_zero, List.getElem?_cons_succ]; exact rfl) (by kernel_rfl) (by kernel_rfl) (by kernel_rfl) (by intro _ _ _ h; exact h) (Or.inl ⟨by rfl, ?_⟩) (by assumption) ?_
            rotate_left
            · intro w hSw
              (try dsimp only at hSw)
              go_simp
              try (with_reducible rfl)
            try simp only [Act.put, List.setIfInBounds_toArray, List.set_cons_zero, List.set_cons_succ]
            refine wpAnyH_take (i := 5) (v := ?_) (by simp only [List.getElem?_toArray, List.getElem?_cons_zero, List.getElem?_cons_succ]; exact rfl) (by kernel_rfl) (by kernel_rfl) (by kernel_rfl) (by intro _ _ _ h; exact h) (Or.inl ⟨by rfl, ?_⟩) (by assumption) ?_
            rotate_left
            · intro w hSw
              (try dsimp only at hSw)
              go_simp
              try (with_reducible rfl)
            try simp only [Act.put, List.setIfInBounds_toArray, List.set_cons_zero, List.set_cons_succ]
            refine wpAnyH_ready (rs := [6]) (by kernel_rfl) (by simp) ?_
            refine AllReadyH.cons (by simp only [List.getElem?_toArray, List.getElem?_cons_zero, List.getElem?_cons_succ]; exact rfl) (fun K hK => ?_) AllReadyH.nil
            go_simp
            (go_at_call 19; (with_reducible refine (ht wr.drew hcd).mono ?_); rintro e w6 ⟨rfl, hc6⟩; have hS9 := K7 w6 (hcd.trans hc6); (try dsimp only))
            try go_wp2_with fail
            refine hK.out _ _ ?_ (fun hHeld => ?_)
            · try dsimp only
              first | assumption | exact (by assumption) | fail
            clear hK K
            try simp only [Act.put, List.setIfInBounds_toArray, List.set_cons_zero, List.set_cons_succ]
            refine wpAnyH_take (i := 7) (v := ?_) (by simp only [List.getElem?_toArray, List.getElem?_cons_zero, List.getElem?_cons_succ]; exact rfl) (by kernel_rfl) (by kernel_rfl) (by kernel_rfl) (by intro _ _ _ h; exact h) (Or.inl ⟨by rfl, ?_⟩) (by assumption) ?_
            rotate_left
            · intro w hSw
              (try dsimp only at hSw)
              go_simp
              try (with_reducible rfl)
            try simp only [Act.put, List.setIfInBounds_toArray, List.set_cons_zero, List.set_cons_succ]
            refine wpAnyH_done (by kernel_rfl) ?_ _
            dsimp only [onlyN]
            have hc6' := hcd.trans hc6
            have hS6 : ∀ k, S w6 k → S wr k := hF.st _ wr w6 none hJ hc6'.grow0 (fun r e => by cases e)
            have hJ6 : J (P0 ++ Z0) w6 := hF.own _ wr w6 none hJ hc6'.grow0 (fun r e => by cases e)
            have hL6 := hL.ch0 hc6' hS6
            have hsz6 : W.heap.size ≤ w6.heap.size := Nat.le_trans hszr hc6'.size
            have k6 := (hL6 _ (List.mem_singleton.2 rfl)).1
            simp only at k6
            have y1 := cellOf k6 1 rfl
            obtain ⟨_, _, hwt6⟩ := hA _ _ hJ6
            have hp := desc_Pointer w6 k hwt6 ik
            have hcn := annot_Counts w6 k o.reg T
            clear hL hJ z6 z7 K7 hS6 hc6
            by_cases hcase : k = 1 ∧ T ≠ 0 ∧ T ≠ o.reg
            · have h3 := HZ3.out
              have h4 := HS.out
              rw [HZ2.out] at h4
              rw [HLK.out, if_pos hcase] at h3 h4
              have hsp : links l = (P0 ++ Z0) ++ (o.reg, T) :: (Z1 ++ P1) := by rw [h4]; simp
              obtain ⟨fn, tmps, assign, body, hyl, hR⟩ := hround (P0 ++ Z0) (o.reg, T) (Z1 ++ P1) w6 hsp hsz6 hJ6
              dsimp only [encL] at hyl
              obtain ⟨rfl, hc1, hc2⟩ := hcase
              rw [show isPtr 1 = true from rfl] at hp
              have hcv : ((1 : Int) == 1 && (T != 0 && T != o.reg)) = true := by simp [hc1, hc2]
              rw [hcv] at hcn
              have H3 := Lib.hid h3
              clear h3 h4 hsp hc1 hc2 hcv
              gi_wp2
              refine ⟨trivial, ?_⟩
              refine (callsIn_wide.2 hp).mono ?_
              rintro e w7 ⟨rfl, rfl⟩
              gi_wp2
              refine ⟨trivial, ?_⟩
              refine (callsIn_wide.2 hcn).mono ?_
              rintro e w7 ⟨rfl, rfl⟩
              gi_wp2
              refine hR.mono ?_
              rintro e w8 ⟨rfl, hJ8, hK8⟩
              gi_wp2
              go_roundw
              case rel => exact ⟨i + 1, by omega, by omega, by go_num, by rw [H3.out, ← List.append_assoc]; exact hJ8, by rw [← HKA.out]; exact hL6.keeps hK8, Nat.le_trans hsz6 hK8.size⟩
              case measure => exact meas_lt (by omega)
            · have hno : ¬ (k = 1 ∧ T ≠ 0 ∧ T ≠ o.reg) := hcase
              have h3 := HZ3.out
              rw [HLK.out, if_neg hno, List.append_nil] at h3
              have hcv : (k == 1 && (T != 0 && T != o.reg)) = false := by
                rw [Bool.eq_false_iff]
                intro z
                simp at z
                exact hno ⟨z.1, z.2.1, z.2.2⟩
              rw [hcv] at hcn
              have H3 := Lib.hid h3
              clear h3 hno hcv hcase
              cases hip : isPtr k with
              | true =>
                rw [hip] at hp
                clear hip
                gi_wp2
                refine ⟨trivial, ?_⟩
                refine (callsIn_wide.2 hp).mono ?_
                rintro e w7 ⟨rfl, rfl⟩
                gi_wp2
                refine ⟨trivial, ?_⟩
                refine (callsIn_wide.2 hcn).mono ?_
                rintro e w7 ⟨rfl, rfl⟩
                gi_wp2
                refine ⟨fun _ h => (by cases h), ?_⟩
                gi_wp2
                go_roundw
                case rel => exact ⟨i + 1, by omega, by omega, by go_num, by rw [H3.out]; exact hJ6, by rw [← HKA.out]; exact hL6, hsz6⟩
                case measure => exact meas_lt (by omega)
              | false =>
                rw [hip] at hp
                clear hip hcn
                gi_wp2
                refine ⟨trivial, ?_⟩
                refine (callsIn_wide.2 hp).mono ?_
                rintro e w7 ⟨rfl, rfl⟩
                gi_wp2
                refine ⟨trivial, ?_⟩
                gi_wp2
                refine ⟨fun _ h => (by cases h), ?_⟩
                gi_wp2
                go_roundw
                case rel => exact ⟨i + 1, by omega, by omega, by go_num, by rw [H3.out]; exact hJ6, by rw [← HKA.out]; exact hL6, hsz6⟩
                case measure => exact meas_lt (by omega)
          · have hie : (o.kinds.zip o.vals).take i = o.kinds.zip o.vals := List.take_of_length_le (by omega)
            rw [hie, show (o.kinds.zip o.vals).flatMap (lk l o.reg) = oLinks l o from rfl] at hJ
            have b1 : decide ((i : Int) ≥ (o.vals.length : Int)) = true := decide_eq_true (by omega)
            rw [hka] at z6
            have HKA := Lib.hid hka
            have hge : o.vals.length ≤ i := by omega
            clear hie hka hkr hvr hsl hwt hzl
            rw [HKA.out]
            gi_wp2
            go_roundw
            case rel => exact ⟨io + 1, by omega, by go_num, by rw [HT.out]; exact hJ, hszr⟩
            case measure => exact meas_lt (by omega)
        · have hie : (o.kinds.zip o.vals).take i = o.kinds.zip o.vals := List.take_of_length_le (by omega)
          rw [hie, show (o.kinds.zip o.vals).flatMap (lk l o.reg) = oLinks l o from rfl] at hJ
          have hge : o.kinds.length ≤ i := by omega
          clear hie hkr hvr hsl hwt hzl
          gi_wp2
          go_roundw
          case rel => exact ⟨io + 1, by omega, by go_num, by rw [HT.out]; exact hJ, hszr⟩
          case measure => exact meas_lt (by omega)
    · obtain rfl : io = l.length := by omega
      rw [List.take_length, show l.flatMap (oLinks l) = links l from rfl] at hJ
      gi_wp2
      rw [Exit.noGoto_normal]
      go_end0
      exact ⟨⟨_, rfl⟩, hJ⟩
end Go.Proofs.YtdmhenanikkabaaDoor

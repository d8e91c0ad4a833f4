/- Layer 18 (sweep): the law SweepMissing: the walk. -/
import Derived.Test.YtdmhenanikkabaaDoorSweepD
import Derived.Test.YtdmhenanikkabaaDoorRef15
set_option linter.unusedVariables false
set_option linter.unusedSimpArgs false
namespace Go.Proofs.YtdmhenanikkabaaDoor
open Go Go.RowKit

theorem infoObj : (Tryd.prog.info? 30).map (fun i => (i.zero, i.size, i.bytes)) = some (some (.agg #[.int .i64 0, .int .i64 0, .bool false, .int .i64 0, .int .i64 0, .int .i64 0, .slice none 0 0, .slice none 0 0]), 8, 96) := by kernel_rfl
theorem rest_take {l : List Ob} {i : Nat} (h : i < l.length) (r : Int) : rest_ (l.take (i + 1)) r = rest_ (l.take i) r ++ (if l[i].reg ≠ r then [l[i]] else []) := by
  rw [List.take_succ_eq_append_getElem h]
  unfold rest_
  rw [List.filter_append]
  congr 1
  by_cases e : l[i].reg = r <;> simp [e]

set_option maxRecDepth 100000 in
set_option maxHeartbeats 8000000 in
theorem missing18 (w : World) (q qr : Option Addr) (c cr : Nat) (l : List Ob) (rs : List Int) (r : Int) (h : SlR objRp No w q c l) (h2 : SlR (intRp .u64) No w qr cr rs) (ir : I64 r) (hW : Wt w) (hl : l.length ≤ 9223372036854775807) (hlr : rs.length ≤ 9223372036854775807) :
    Calls Tryd.prog 3 #[.slice q l.length c, .slice qr rs.length cr, .int .i64 r] w fun e w' => e = .returned (.bool true) ∧ Ch No w w' := by
  have hgt := great18 w q c l h hl
  go_enter Tryd.func3, Tryd.ntmps3
  go_wp2_with fail
  with_reducible refine hgt.mono ?_
  rintro e w1 ⟨G0, rfl, hft, hc1⟩
  have hW1 := hW.ch0 hc1
  cases G0 with
  | true =>
    clear hft
    dsimp only
    go_wp2_with fail
    with_reducible refine (fixed18 w1 hW1).mono ?_
    rintro e w2 ⟨rfl, hc2⟩
    dsimp only
    go_wp2_with fail
    go_ret
    exact ⟨rfl, hc1.trans hc2⟩
  | false =>
    replace hft := hft rfl
    by_cases hrs : 60 < rs.length
    · have b1 : decide ((rs.length : Int) > 60) = true := decide_eq_true (by omega)
      dsimp only
      go_wp2_with fail
      with_reducible refine (fixed18 w1 hW1).mono ?_
      rintro e w2 ⟨rfl, hc2⟩
      dsimp only
      go_wp2_with fail
      go_ret
      exact ⟨rfl, hc1.trans hc2⟩
    have b1 : decide ((rs.length : Int) > 60) = false := decide_eq_false (by omega)
    have hrs60 : rs.length ≤ 60 := by omega
    have hl60 := hft.n
    clear hrs hgt
    obtain ⟨B, hB⟩ : ∃ z, z = w.heap.size := ⟨_, rfl⟩
    have h1 := (h.more (F' := fun k => B ≤ k) (fun k e => .inr (by omega))).ch0 hc1
    have hB1 : B ≤ w1.heap.size := by rw [hB]; exact hc1.size
    have HB := Lib.hid hB
    clear hB
    dsimp only
    go_wp2_with fail
    go_loopw [7, 25] (fun v u wr => ∃ (i : Nat), i ≤ l.length ∧ u = .int .i64 i ∧ OwnR objRp B 30 No wr v (rest_ (l.take i) r) ∧ (l.take i).Pairwise (fun a b => a.at_ ≠ b.at_) ∧ B ≤ wr.heap.size ∧ SlR objRp (fun k => B ≤ k) wr q c l ∧ Ch No w wr) (fun _ u _ => l.length - (intOf u).toNat)
    case atStart => exact ⟨0, by omega, rfl, OwnR.nilR _ _ _ _ _, by simp, hB1, h1, hc1⟩
    case round =>
      obtain ⟨i, hi, rfl, ho, hpw, hBr, hsl, hc⟩ := hrel
      clear h1 hB1
      by_cases hlt : i < l.length
      · obtain ⟨b, off, rfl, _, _, hcs, ia, ig, hkk, hvv⟩ := hsl.obj_at i hlt
        have hrt := rest_take hlt r
        have hpx : (∀ j, ∀ hj : j < l.length, j < i → l[j].at_ ≠ l[i].at_) → (l.take (i + 1)).Pairwise (fun a b => a.at_ ≠ b.at_) := fun hh => by
          rw [List.take_succ_eq_append_getElem hlt, List.pairwise_append]
          refine ⟨hpw, by simp, fun x hx y hy => ?_⟩
          rw [List.mem_singleton.1 hy]
          obtain ⟨j, hj, rfl⟩ := List.getElem_of_mem hx
          rw [List.length_take] at hj
          rw [List.getElem_take]
          exact hh j (by omega) (by omega)
        have hml := List.length_filter_le (fun o : Ob => decide (o.reg ≠ r)) (l.take i)
        rw [List.length_take] at hml
        obtain ⟨o, hoe⟩ : ∃ z, z = l[i] := ⟨_, rfl⟩
        rw [← hoe] at hcs ia ig hkk hvv hrt
        simp only [← hoe] at hpx
        obtain ⟨M, hM⟩ : ∃ z, z = rest_ (l.take i) r := ⟨_, rfl⟩
        have hM60 : M.length ≤ 60 := by rw [hM]; unfold rest_; omega
        rw [← hM] at ho hrt
        have d0 := hcs 0 _ rfl
        have d1 := hcs 1 _ rfl
        have d2 := hcs 2 _ rfl
        have d3 := hcs 3 _ rfl
        have d4 := hcs 4 _ rfl
        have d5 := hcs 5 _ rfl
        have d6 := hcs 6 _ rfl
        have d7 := hcs 7 _ rfl
        rw [Nat.add_zero] at d0
        obtain ⟨C9, hC9⟩ : ∃ z, z = wr.heap.size := ⟨_, rfl⟩
        obtain ⟨w9, hw9⟩ : ∃ z, z = wr.alloc (.cells o.cells.toArray 30) := ⟨_, rfl⟩
        have hc9 : Ch No wr w9 := by rw [hw9]; exact (Ch.refl _ _).alloc _
        have k9 : w9.heap[C9]? = some (.cells o.cells.toArray 30 (0, 0)) := by rw [hw9, hC9]; exact heap_alloc_new _ _
        simp only [Ob.cells] at hw9 k9
        have hic : i ≤ c := Nat.le_trans (by omega) hsl.le
        have HC9 := Lib.hid hC9
        have HW9 := Lib.hid hw9
        have HPX := Lib.hid hpx
        have HRT := Lib.hid hrt
        have HOE := Lib.hid hoe
        have ho9 := ho.ch0 hc9
        have hsl9 := hsl.ch0 hc9
        have hkk9 := hkk.ch0 hc9
        have hvv9 := hvv.ch0 hc9
        have hC := hc.trans hc9
        have hB9 : B ≤ w9.heap.size := Nat.le_trans hBr hc9.size
        clear hcs hC9 hw9 hpx hrt hoe hM hml hpw ho hsl hkk hvv hc
        go_wp2_with fail
        rw [← HW9.out, ← HC9.out]
        go_loopw [34] (fun u wz => ∃ (j : Nat), j ≤ i ∧ u = .int .i64 j ∧ (∀ j', ∀ hj : j' < l.length, j' < j → l[j'].at_ ≠ o.at_) ∧ Ch No w9 wz) (fun u _ => i - (intOf u).toNat)
        case atStart => exact ⟨0, by omega, rfl, fun j _ hj => absurd hj (by omega), Ch.refl _ _⟩
        case round =>
          obtain ⟨j, hj, rfl, hno, hcz⟩ := hrel
          by_cases hjl : j < i
          · obtain ⟨b', off', hqq, _, _, hcx, iax, _, _, _⟩ := (hsl9.ch0 hcz).obj_at j (by omega)
            obtain ⟨rfl, rfl⟩ : b = b' ∧ off = off' := by cases hqq; exact ⟨rfl, rfl⟩
            have hnx : l[j].at_ ≠ o.at_ → ∀ j', ∀ hj : j' < l.length, j' < j + 1 → l[j'].at_ ≠ o.at_ := fun hh j' hj' hjj => by
              by_cases e : j' = j
              · subst e; exact hh
              · exact hno j' hj' (by omega)
            obtain ⟨x, hx⟩ : ∃ z, z = l[j] := ⟨_, rfl⟩
            rw [← hx] at hcx iax hnx
            have d0 := hcx 0 _ rfl
            have d1 := hcx 1 _ rfl
            have d2 := hcx 2 _ rfl
            have d3 := hcx 3 _ rfl
            have d4 := hcx 4 _ rfl
            have d5 := hcx 5 _ rfl
            have d6 := hcx 6 _ rfl
            have d7 := hcx 7 _ rfl
            rw [Nat.add_zero] at d0
            have kz := hcz.heap k9 (fun e => e)
            have hy : ∀ cs T, (wr.alloc (.cells cs T)).cell? ⟨C9, 0, none⟩ = some (.int .i64 o.at_) := fun cs T => cellOf (heap_al kz _) 0 rfl
            have hal : ∀ cs T, Ch No wr (wr.alloc (.cells cs T)) := fun cs T => (Ch.refl _ _).alloc _
            have y0 := hy #[.int .i64 x.at_, .int .i64 x.reg, .bool x.arr, .int .i64 x.hk, .int .i64 x.ht, .int .i64 x.hn, .slice x.ka x.kinds.length x.kc, .slice x.va x.vals.length x.vc] 30
            have HNX := Lib.hid hnx
            by_cases he : x.at_ = o.at_
            · have b2 : (x.at_ == o.at_) = true := by simp [he]
              have hWz := (((hW1.ch0 ((Ch.refl No w1)))))
              have hWf := (hW.ch0 (hC.trans hcz))
              have hfx := fun cs T => fixed18 (wr.alloc (.cells cs T)) (hWf.ch0 (hal cs T))
              clear hnx hx hno hcx he hy
              go_wp2_with fail
              with_reducible refine (hfx _ _).mono ?_
              rintro e w2 ⟨rfl, hc2⟩
              dsimp only
              go_wp2_with fail
              go_ret
              exact ⟨rfl, ((hC.trans hcz).trans (hal _ _)).trans hc2⟩
            · have b2 : (x.at_ == o.at_) = false := by simp [he]
              have HE := Lib.hid he
              clear hnx hx hno hcx he hy
              go_wp2_with fail
              go_roundw
              case rel => exact ⟨j + 1, by omega, by go_num, HNX.out HE.out, hcz.trans (hal _ _)⟩
              case measure => exact meas_lt (by omega)
          · obtain rfl : j = i := by omega
            have hpz := HPX.out (fun j' h1 h2 => by have := hno j' h1 h2; exact this)
            have HPZ := Lib.hid hpz
            have kz := hcz.heap k9 (fun e => e)
            have y0 := cellOf kz 0 rfl
            have y1 := cellOf kz 1 rfl
            have y2 := cellOf kz 2 rfl
            have y3 := cellOf kz 3 rfl
            have y4 := cellOf kz 4 rfl
            have y5 := cellOf kz 5 rfl
            have y6 := cellOf kz 6 rfl
            have y7 := cellOf kz 7 rfl
            have hoz := ho9.ch0 hcz
            have hslz := hsl9.ch0 hcz
            have hkz := (hkk9.ch0 hcz).more (F' := fun k => No k ∨ u7.ownBlock = some k) (fun k e => e.elim (fun z => z.elim) (fun z => .inl (hoz.blk k z).1))
            have hvz := (hvv9.ch0 hcz).more (F' := fun k => No k ∨ u7.ownBlock = some k) (fun k e => e.elim (fun z => z.elim) (fun z => .inl (hoz.blk k z).1))
            have hBz : B ≤ wr.heap.size := by have := hcz.size; omega
            have hrt := HRT.out
            clear hno hpz kz
            by_cases he : o.reg = r
            · have b2 : (o.reg != r) = false := by simp [he]
              rw [if_neg (by simp [he]), List.append_nil] at hrt
              have HR := Lib.hid hrt
              clear he hrt
              go_wp2_with fail
              go_roundw
              case rel => exact ⟨j + 1, by omega, by go_num, by rw [HR.out]; exact hoz, HPZ.out, hBz, hslz, hC.trans hcz⟩
              case measure => exact meas_lt (by omega)
            · have b2 : (o.reg != r) = true := by simp [he]
              rw [if_pos he] at hrt
              have HR := Lib.hid hrt
              clear he hrt
              go_wp2_with (at_builtin; go_loud (refine wpL_push rfl _ _ _ rfl B 30 (.agg #[.int .i64 0, .int .i64 0, .bool false, .int .i64 0, .int .i64 0, .int .i64 0, .slice none 0 0, .slice none 0 0]) 8 96 Tryd.underlying22 infoObj rfl (by decide) objRp rfl No u7 M rfl hoz [.int .i64 o.at_, .int .i64 o.reg, .bool o.arr, .int .i64 o.hk, .int .i64 o.ht, .int .i64 o.hn, .slice o.ka o.kinds.length o.kc, .slice o.va o.vals.length o.vc] _ o 1 (by go_simp) ⟨rfl, ia, ig, hkz, hvz⟩ (fun _ e => e.elim) (by omega) (by omega) hBz ?_); intro v10 w10 ho10 hg10 hk10)
              go_roundw
              case rel => exact ⟨j + 1, by omega, by go_num, by rw [HR.out]; exact ho10, HPZ.out, by have := hk10.size; omega, hslz.ch hk10 (fun k z => (hoz.blk _ z).1), hg10 No w (by have := HB.out; omega) (hC.trans hcz)⟩
              case measure => exact meas_lt (by omega)
      · obtain rfl : i = l.length := by omega
        rw [List.take_length] at ho hpw
        obtain ⟨qs, cs, hv7, hs7⟩ := ho.sl (fun _ e => e.elim)
        have hfr := hft.rest r
        have hr60 := hfr.n
        have hmis := fun g (h1 : g > 0) (h2 : g ≠ r) => missing hft hpw rs hrs60 h1 h2
        have hrest := outs_rest l r
        have hself := outs_self hft r
        have hne : ∀ o ∈ rest_ l r, o.reg ≠ r := fun o ho => by have := (List.mem_filter.1 ho).2; simpa using this
        have hlN := hsl.more (F' := No) (fun k e => e.elim)
        have hWr := hW.ch0 hc
        have h2r := h2.ch0 hc
        have hog := sweep_Outgoing No wr q c l r hlN hft hWr ir (fun _ e => e.elim)
        have hgl := tally_len (outs l r)
        have hgl2 := (outs_ok hft r).2
        obtain ⟨TG, hTG⟩ : ∃ z, z = tally (outs l r) := ⟨_, rfl⟩
        obtain ⟨M, hM⟩ : ∃ z, z = rest_ l r := ⟨_, rfl⟩
        simp only [← hTG] at hog hmis hself hgl
        rw [← hM] at hv7 hs7 hfr hrest hne hr60
        simp only [← hM] at hmis
        subst hv7
        have hT100 : TG.length ≤ 100000 := by omega
        have HMI := Lib.hid hmis
        have HRE := Lib.hid hrest
        have HSE := Lib.hid hself
        have HNE := Lib.hid hne
        clear hTG hM hmis hrest hself hne hpw hgl hgl2 ho
        go_wp2_with fail
        with_reducible refine hog.mono ?_
        rintro e w6 ⟨q6, c6, rfl, hs6, hc6⟩
        have hM6 := hs7.ch0 hc6
        have hl6 := hlN.ch0 hc6
        have h26 := h2r.ch0 hc6
        have hW6 := hWr.ch0 hc6
        have hC6 := hc.trans hc6
        dsimp only
        go_wp2_with fail
        go_loopw [59] (fun u wz => ∃ (j : Nat), j ≤ M.length ∧ u = .int .i64 j ∧ Ch No w6 wz) (fun u _ => M.length - (intOf u).toNat)
        case atStart => exact ⟨0, by omega, rfl, Ch.refl _ _⟩
        case round =>
          obtain ⟨j, hj, rfl, hcz⟩ := hrel
          by_cases hjl : j < M.length
          · obtain ⟨b, off, rfl, _, _, hcx, iax, igx, _, _⟩ := (hM6.ch0 hcz).obj_at j hjl
            have hnr := HNE.out _ (List.getElem_mem hjl)
            obtain ⟨x, hx⟩ : ∃ z, z = M[j] := ⟨_, rfl⟩
            rw [← hx] at hcx iax igx hnr
            have d0 := hcx 0 _ rfl
            have d1 := hcx 1 _ rfl
            have d2 := hcx 2 _ rfl
            have d3 := hcx 3 _ rfl
            have d4 := hcx 4 _ rfl
            have d5 := hcx 5 _ rfl
            have d6 := hcx 6 _ rfl
            have d7 := hcx 7 _ rfl
            rw [Nat.add_zero] at d0
            obtain ⟨C14, hC14⟩ : ∃ z, z = wr.heap.size := ⟨_, rfl⟩
            obtain ⟨w14, hw14⟩ : ∃ z, z = wr.alloc (.cells x.cells.toArray 30) := ⟨_, rfl⟩
            have hc14 : Ch No wr w14 := by rw [hw14]; exact (Ch.refl _ _).alloc _
            have k14 : w14.heap[C14]? = some (.cells x.cells.toArray 30 (0, 0)) := by rw [hw14, hC14]; exact heap_alloc_new _ _
            simp only [Ob.cells] at hw14 k14
            have y1 := cellOf k14 1 rfl
            have HC14 := Lib.hid hC14
            have HW14 := Lib.hid hw14
            obtain ⟨g, hg⟩ : ∃ z, z = x.reg := ⟨_, rfl⟩
            rw [← hg] at igx hnr y1
            have HG := Lib.hid hg
            have hcz14 := hcz.trans hc14
            have hcd : Ch No w14 w14.drew := (Ch.refl _ _).drew
            have K20 : ∀ W, Ch No w14 W → (fun w' : World => w'.cell? ⟨C14, 1, none⟩ = some (.int .i64 g)) W := fun W hh => hh.cell y1 (fun e => e)
            have a1 := fun W (hh : Ch No w14 W) => sweep_Incoming W _ qr _ cr M rs g ((hM6.ch0 hcz14).ch0 hh) ((h26.ch0 hcz14).ch0 hh) hfr hrs60 ((hW6.ch0 hcz14).ch0 hh)
            have a2 := fun W (hh : Ch No w14 W) => sweep_Incoming W q qr c cr l rs g ((hl6.ch0 hcz14).ch0 hh) ((h26.ch0 hcz14).ch0 hh) hft hrs60 ((hW6.ch0 hcz14).ch0 hh)
            have a3 := fun W (hh : Ch No w14 W) => ref15_Of No W q6 c6 TG g ((hs6.ch0 hcz14).ch0 hh) hT100
            by_cases hpos : g > 0
            · have b2 : decide (g > 0) = true := decide_eq_true hpos
              obtain ⟨m1, m2, m3, m4, m5⟩ := HMI.out g hpos hnr
              obtain ⟨V1, hV1⟩ : ∃ z, z = cnt (tally (ins_ M rs)) g := ⟨_, rfl⟩
              obtain ⟨V2, hV2⟩ : ∃ z, z = cnt (tally (ins_ l rs)) g := ⟨_, rfl⟩
              obtain ⟨V3, hV3⟩ : ∃ z, z = cnt TG g := ⟨_, rfl⟩
              rw [← hV1, ← hV2, ← hV3] at m1
              rw [← hV3] at m2 m3
              rw [← hV2] at m4 m5
              simp only [← hV1] at a1
              simp only [← hV2] at a2
              simp only [← hV3] at a3
              have e1 : IntKind.i64.wrap (V2 - V3) = V1 := by rw [m1]; exact IntWalk.i64_in _ (by omega)
              have b3 : (V1 != V1) = false := by simp
              clear hV1 hV2 hV3 m1 m2 m3 m4 m5 hpos hnr hcx hC14 hw14 hx hg
              go_wp2_with fail
              rw [← HW14.out, ← HC14.out]
              refine wp_region_held_drew (S := (fun w' : World => w'.cell? ⟨C14, 1, none⟩ = some (.int .i64 g))) (by kernel_rfl) (K20 _ hcd) (fun hHeld => ?_)
              refine wpAnyH_take (i := 0) (v := ?_) (by simp only [List.getElem?_toArray, List.getElem?_cons_zero, List.getElem?_cons_succ]; exact rfl) (by kernel_rfl) (by kernel_rfl) (by kernel_rfl) (by intro _ _ _ h; exact h) (Or.inl ⟨by rfl, ?_⟩) (by assumption) ?_
              rotate_left
              · intro w hSw
                (try dsimp only at hSw)
                go_simp
                try (with_reducible rfl)
              try simp only [Act.put, List.setIfInBounds_toArray, List.set_cons_zero, List.set_cons_succ]
              refine wpAnyH_take (i := 1) (v := ?_) (by simp only [List.getElem?_toArray, List.getElem?_cons_zero, List.getElem?_cons_succ]; exact rfl) (by kernel_rfl) (by kernel_rfl) (by kernel_rfl) (by intro _ _ _ h; exact h) (Or.inl ⟨by rfl, ?_⟩) (by assumption) ?_
              rotate_left
              · intro w hSw
                (try dsimp only at hSw)
                go_simp
                try (with_reducible rfl)
              try simp only [Act.put, List.setIfInBounds_toArray, List.set_cons_zero, List.set_cons_succ]
              refine wpAnyH_take (i := 2) (v := ?_) (by simp only [List.getElem?_toArray, List.getElem?_cons_zero, List.getElem?_cons_succ]; exact rfl) (by kernel_rfl) (by kernel_rfl) (by kernel_rfl) (by intro _ _ _ h; exact h) (Or.inl ⟨by rfl, ?_⟩) (by assumption) ?_
              rotate_left
              · intro w hSw
                (try dsimp only at hSw)
                go_simp
                try (with_reducible rfl)
              try simp only [Act.put, List.setIfInBounds_toArray, List.set_cons_zero, List.set_cons_succ]
              refine wpAnyH_take (i := 3) (v := ?_) (by simp only [List.getElem?_toArray, List.getElem?_cons_zero, List.getElem?_cons_succ]; exact rfl) (by kernel_rfl) (by kernel_rfl) (by kernel_rfl) (by intro _ _ _ h; exact h) (Or.inl ⟨by rfl, ?_⟩) (by assumption) ?_
              rotate_left
              · intro w hSw
                (try dsimp only at hSw)
                go_simp
                try (with_reducible rfl)
              try simp only [Act.put, List.setIfInBounds_toArray, List.set_cons_zero, List.set_cons_succ]
              refine wpAnyH_take (i := 4) (v := ?_) (by simp only [List.getElem?_toArray, List.getElem?_cons_zero, List.getElem?_cons_succ]; exact rfl) (by kernel_rfl) (by kernel_rfl) (by kernel_rfl) (by intro _ _ _ h; exact h) (Or.inl ⟨by rfl, ?_⟩) (by assumption) ?_
              rotate_left
              · intro w hSw
                (try dsimp only at hSw)
                go_simp
                try (with_reducible rfl)
              try simp only [Act.put, List.setIfInBounds_toArray, List.set_cons_zero, List.set_cons_succ]
              refine wpAnyH_take (i := 5) (v := ?_) (by simp only [List.getElem?_toArray, List.getElem?_cons_zero, List.getElem?_cons_succ]; exact rfl) (by kernel_rfl) (by kernel_rfl) (by kernel_rfl) (by intro _ _ _ h; exact h) (Or.inl ⟨by rfl, ?_⟩) (by assumption) ?_
              rotate_left
              · intro w hSw
                (try dsimp only at hSw)
                go_simp
                try (with_reducible rfl)
              try simp only [Act.put, List.setIfInBounds_toArray, List.set_cons_zero, List.set_cons_succ]
              refine wpAnyH_take (i := 6) (v := ?_) (by simp only [List.getElem?_toArray, List.getElem?_cons_zero, List.getElem?_cons_succ]; exact rfl) (by kernel_rfl) (by kernel_rfl) (by kernel_rfl) (by intro _ _ _ h; exact h) (Or.inl ⟨by rfl, ?_⟩) (by assumption) ?_
              rotate_left
              · intro w hSw
                (try dsimp only at hSw)
                go_simp
                try (with_reducible rfl)
              try simp only [Act.put, List.setIfInBounds_toArray, List.set_cons_zero, List.set_cons_succ]
              refine wpAnyH_take (i := 7) (v := ?_) (by simp only [List.getElem?_toArray, List.getElem?_cons_zero, List.getElem?_cons_succ]; exact rfl) (by kernel_rfl) (by kernel_rfl) (by kernel_rfl) (by intro _ _ _ h; exact h) (Or.inl ⟨by rfl, ?_⟩) (by assumption) ?_
              rotate_left
              · intro w hSw
                (try dsimp only at hSw)
                go_simp
                try (with_reducible rfl)
              try simp only [Act.put, List.setIfInBounds_toArray, List.set_cons_zero, List.set_cons_succ]
              refine wpAnyH_take (i := 9) (v := ?_) (by simp only [List.getElem?_toArray, List.getElem?_cons_zero, List.getElem?_cons_succ]; exact rfl) (by kernel_rfl) (by kernel_rfl) (by kernel_rfl) (by intro _ _ _ h; exact h) (Or.inl ⟨by rfl, ?_⟩) (by assumption) ?_
              rotate_left
              · intro w hSw
                (try dsimp only at hSw)
                go_simp
                try (with_reducible rfl)
              try simp only [Act.put, List.setIfInBounds_toArray, List.set_cons_zero, List.set_cons_succ]
              refine wpAnyH_take (i := 10) (v := ?_) (by simp only [List.getElem?_toArray, List.getElem?_cons_zero, List.getElem?_cons_succ]; exact rfl) (by kernel_rfl) (by kernel_rfl) (by kernel_rfl) (by intro _ _ _ h; exact h) (Or.inl ⟨by rfl, ?_⟩) (by assumption) ?_
              rotate_left
              · intro w hSw
                (try dsimp only at hSw)
                go_simp
                try (with_reducible rfl)
              try simp only [Act.put, List.setIfInBounds_toArray, List.set_cons_zero, List.set_cons_succ]
              refine wpAnyH_take (i := 11) (v := ?_) (by simp only [List.getElem?_toArray, List.getElem?_cons_zero, List.getElem?_cons_succ]; exact rfl) (by kernel_rfl) (by kernel_rfl) (by kernel_rfl) (by intro _ _ _ h; exact h) (Or.inl ⟨by rfl, ?_⟩) (by assumption) ?_
              rotate_left
              · intro w hSw
                (try dsimp only at hSw)
                go_simp
                try (with_reducible rfl)
              try simp only [Act.put, List.setIfInBounds_toArray, List.set_cons_zero, List.set_cons_succ]
              refine wpAnyH_take (i := 12) (v := ?_) (by simp only [List.getElem?_toArray, List.getElem?_cons_zero, List.getElem?_cons_succ]; exact rfl) (by kernel_rfl) (by kernel_rfl) (by kernel_rfl) (by intro _ _ _ h; exact h) (Or.inl ⟨by rfl, ?_⟩) (by assumption) ?_
              rotate_left
              · intro w hSw
                (try dsimp only at hSw)
                go_simp
                try (with_reducible rfl)
              try simp only [Act.put, List.setIfInBounds_toArray, List.set_cons_zero, List.set_cons_succ]
              refine wpAnyH_take (i := 14) (v := ?_) (by simp only [List.getElem?_toArray, List.getElem?_cons_zero, List.getElem?_cons_succ]; exact rfl) (by kernel_rfl) (by kernel_rfl) (by kernel_rfl) (by intro _ _ _ h; exact h) (Or.inl ⟨by rfl, ?_⟩) (by assumption) ?_
              rotate_left
              · intro w hSw
                (try dsimp only at hSw)
                go_simp
                try (with_reducible rfl)
              try simp only [Act.put, List.setIfInBounds_toArray, List.set_cons_zero, List.set_cons_succ]
              refine wpAnyH_take (i := 15) (v := ?_) (by simp only [List.getElem?_toArray, List.getElem?_cons_zero, List.getElem?_cons_succ]; exact rfl) (by kernel_rfl) (by kernel_rfl) (by kernel_rfl) (by intro _ _ _ h; exact h) (Or.inl ⟨by rfl, ?_⟩) (by assumption) ?_
              rotate_left
              · intro w hSw
                (try dsimp only at hSw)
                go_simp
                try (with_reducible rfl)
              try simp only [Act.put, List.setIfInBounds_toArray, List.set_cons_zero, List.set_cons_succ]
              refine wpAnyH_take (i := 16) (v := ?_) (by simp only [List.getElem?_toArray, List.getElem?_cons_zero, List.getElem?_cons_succ]; exact rfl) (by kernel_rfl) (by kernel_rfl) (by kernel_rfl) (by intro _ _ _ h; exact h) (Or.inl ⟨by rfl, ?_⟩) (by assumption) ?_
              rotate_left
              · intro w hSw
                (try dsimp only at hSw)
                go_simp
                try (with_reducible rfl)
              try simp only [Act.put, List.setIfInBounds_toArray, List.set_cons_zero, List.set_cons_succ]
              refine wpAnyH_ready (rs := [8]) (by kernel_rfl) (by simp) ?_
              refine AllReadyH.cons (by simp only [List.getElem?_toArray, List.getElem?_cons_zero, List.getElem?_cons_succ]; exact rfl) (fun K hK => ?_) AllReadyH.nil
              go_simp
              (go_at_call 8; (with_reducible refine (a1 w14.drew hcd).mono ?_); rintro e w15 ⟨rfl, hc15⟩; have hd15 := hcd.trans hc15; have hS9 := K20 w15 hd15; (try dsimp only))
              try go_wp2_with fail
              refine hK.out _ _ ?_ (fun hHeld => ?_)
              · try dsimp only
                first | assumption | exact (by assumption) | fail
              clear hK K
              try simp only [Act.put, List.setIfInBounds_toArray, List.set_cons_zero, List.set_cons_succ]
              refine wpAnyH_ready (rs := [13]) (by kernel_rfl) (by simp) ?_
              refine AllReadyH.cons (by simp only [List.getElem?_toArray, List.getElem?_cons_zero, List.getElem?_cons_succ]; exact rfl) (fun K hK => ?_) AllReadyH.nil
              go_simp
              (go_at_call 8; (with_reducible refine (a2 w15 hd15).mono ?_); rintro e w16 ⟨rfl, hc16⟩; have hd16 := hd15.trans hc16; have hS9 := K20 w16 hd16; (try dsimp only))
              try go_wp2_with fail
              refine hK.out _ _ ?_ (fun hHeld => ?_)
              · try dsimp only
                first | assumption | exact (by assumption) | fail
              clear hK K
              try simp only [Act.put, List.setIfInBounds_toArray, List.set_cons_zero, List.set_cons_succ]
              refine wpAnyH_ready (rs := [17]) (by kernel_rfl) (by simp) ?_
              refine AllReadyH.cons (by simp only [List.getElem?_toArray, List.getElem?_cons_zero, List.getElem?_cons_succ]; exact rfl) (fun K hK => ?_) AllReadyH.nil
              go_simp
              (go_at_call 9; (with_reducible refine (a3 w16 hd16).mono ?_); rintro e w17 ⟨rfl, rfl⟩; have hS9 := K20 w16 hd16; (try dsimp only))
              try go_wp2_with fail
              refine hK.out _ _ ?_ (fun hHeld => ?_)
              · try dsimp only
                first | assumption | exact (by assumption) | fail
              clear hK K
              try simp only [Act.put, List.setIfInBounds_toArray, List.set_cons_zero, List.set_cons_succ]
              refine wpAnyH_take (i := 18) (v := ?_) (by simp only [List.getElem?_toArray, List.getElem?_cons_zero, List.getElem?_cons_succ]; exact rfl) (by kernel_rfl) (by kernel_rfl) (by kernel_rfl) (by intro _ _ _ h; exact h) (Or.inl ⟨by rfl, ?_⟩) (by assumption) ?_
              rotate_left
              · intro w hSw
                (try dsimp only at hSw)
                go_simp
                try (with_reducible rfl)
              try simp only [Act.put, List.setIfInBounds_toArray, List.set_cons_zero, List.set_cons_succ]
              refine wpAnyH_take (i := 19) (v := ?_) (by simp only [List.getElem?_toArray, List.getElem?_cons_zero, List.getElem?_cons_succ]; exact rfl) (by kernel_rfl) (by kernel_rfl) (by kernel_rfl) (by intro _ _ _ h; exact h) (Or.inl ⟨by rfl, ?_⟩) (by assumption) ?_
              rotate_left
              · intro w hSw
                (try dsimp only at hSw)
                go_simp
                try (with_reducible rfl)
              try simp only [Act.put, List.setIfInBounds_toArray, List.set_cons_zero, List.set_cons_succ]
              refine wpAnyH_take (i := 20) (v := ?_) (by simp only [List.getElem?_toArray, List.getElem?_cons_zero, List.getElem?_cons_succ]; exact rfl) (by kernel_rfl) (by kernel_rfl) (by kernel_rfl) (by intro _ _ _ h; exact h) (Or.inl ⟨by rfl, ?_⟩) (by assumption) ?_
              rotate_left
              · intro w hSw
                (try dsimp only at hSw)
                go_simp
                try (with_reducible rfl)
              try simp only [Act.put, List.setIfInBounds_toArray, List.set_cons_zero, List.set_cons_succ]
              refine wpAnyH_done (by kernel_rfl) ?_ _
              go_wp2_with fail
              go_roundw
              case rel => exact ⟨j + 1, by omega, by go_num, hcz14.trans hd16⟩
              case measure => exact meas_lt (by omega)
            · have b2 : decide (g > 0) = false := decide_eq_false hpos
              clear hpos hnr hcx hC14 hw14 hx hg a1 a2 a3
              go_wp2_with fail
              rw [← HW14.out, ← HC14.out]
              refine wp_region_held_drew (S := (fun w' : World => w'.cell? ⟨C14, 1, none⟩ = some (.int .i64 g))) (by kernel_rfl) (K20 _ hcd) (fun hHeld => ?_)
              refine wpAnyH_take (i := 0) (v := ?_) (by simp only [List.getElem?_toArray, List.getElem?_cons_zero, List.getElem?_cons_succ]; exact rfl) (by kernel_rfl) (by kernel_rfl) (by kernel_rfl) (by intro _ _ _ h; exact h) (Or.inl ⟨by rfl, ?_⟩) (by assumption) ?_
              rotate_left
              · intro w hSw
                (try dsimp only at hSw)
                go_simp
                try (with_reducible rfl)
              try simp only [Act.put, List.setIfInBounds_toArray, List.set_cons_zero, List.set_cons_succ]
              refine wpAnyH_take (i := 1) (v := ?_) (by simp only [List.getElem?_toArray, List.getElem?_cons_zero, List.getElem?_cons_succ]; exact rfl) (by kernel_rfl) (by kernel_rfl) (by kernel_rfl) (by intro _ _ _ h; exact h) (Or.inl ⟨by rfl, ?_⟩) (by assumption) ?_
              rotate_left
              · intro w hSw
                (try dsimp only at hSw)
                go_simp
                try (with_reducible rfl)
              try simp only [Act.put, List.setIfInBounds_toArray, List.set_cons_zero, List.set_cons_succ]
              refine wpAnyH_take (i := 2) (v := ?_) (by simp only [List.getElem?_toArray, List.getElem?_cons_zero, List.getElem?_cons_succ]; exact rfl) (by kernel_rfl) (by kernel_rfl) (by kernel_rfl) (by intro _ _ _ h; exact h) (Or.inl ⟨by rfl, ?_⟩) (by assumption) ?_
              rotate_left
              · intro w hSw
                (try dsimp only at hSw)
                go_simp
                try (with_reducible rfl)
              try simp only [Act.put, List.setIfInBounds_toArray, List.set_cons_zero, List.set_cons_succ]
              refine wpAnyH_take (i := 3) (v := ?_) (by simp only [List.getElem?_toArray, List.getElem?_cons_zero, List.getElem?_cons_succ]; exact rfl) (by kernel_rfl) (by kernel_rfl) (by kernel_rfl) (by intro _ _ _ h; exact h) (Or.inl ⟨by rfl, ?_⟩) (by assumption) ?_
              rotate_left
              · intro w hSw
                (try dsimp only at hSw)
                go_simp
                try (with_reducible rfl)
              try simp only [Act.put, List.setIfInBounds_toArray, List.set_cons_zero, List.set_cons_succ]
              refine wpAnyH_take (i := 4) (v := undef) (by simp only [List.getElem?_toArray, List.getElem?_cons_zero, List.getElem?_cons_succ]; exact rfl) (by kernel_rfl) (by kernel_rfl) (by kernel_rfl) (by intro _ _ _ h; exact h) (Or.inr ⟨by rfl, rfl⟩) (by assumption) ?_
              try simp only [Act.put, List.setIfInBounds_toArray, List.set_cons_zero, List.set_cons_succ]
              refine wpAnyH_take (i := 5) (v := undef) (by simp only [List.getElem?_toArray, List.getElem?_cons_zero, List.getElem?_cons_succ]; exact rfl) (by kernel_rfl) (by kernel_rfl) (by kernel_rfl) (by intro _ _ _ h; exact h) (Or.inr ⟨by rfl, rfl⟩) (by assumption) ?_
              try simp only [Act.put, List.setIfInBounds_toArray, List.set_cons_zero, List.set_cons_succ]
              refine wpAnyH_take (i := 6) (v := undef) (by simp only [List.getElem?_toArray, List.getElem?_cons_zero, List.getElem?_cons_succ]; exact rfl) (by kernel_rfl) (by kernel_rfl) (by kernel_rfl) (by intro _ _ _ h; exact h) (Or.inr ⟨by rfl, rfl⟩) (by assumption) ?_
              try simp only [Act.put, List.setIfInBounds_toArray, List.set_cons_zero, List.set_cons_succ]
              refine wpAnyH_take (i := 7) (v := undef) (by simp only [List.getElem?_toArray, List.getElem?_cons_zero, List.getElem?_cons_succ]; exact rfl) (by kernel_rfl) (by kernel_rfl) (by kernel_rfl) (by intro _ _ _ h; exact h) (Or.inr ⟨by rfl, rfl⟩) (by assumption) ?_
              try simp only [Act.put, List.setIfInBounds_toArray, List.set_cons_zero, List.set_cons_succ]
              refine wpAnyH_take (i := 8) (v := undef) (by simp only [List.getElem?_toArray, List.getElem?_cons_zero, List.getElem?_cons_succ]; exact rfl) (by kernel_rfl) (by kernel_rfl) (by kernel_rfl) (by intro _ _ _ h; exact h) (Or.inr ⟨by rfl, rfl⟩) (by assumption) ?_
              try simp only [Act.put, List.setIfInBounds_toArray, List.set_cons_zero, List.set_cons_succ]
              refine wpAnyH_take (i := 9) (v := undef) (by simp only [List.getElem?_toArray, List.getElem?_cons_zero, List.getElem?_cons_succ]; exact rfl) (by kernel_rfl) (by kernel_rfl) (by kernel_rfl) (by intro _ _ _ h; exact h) (Or.inr ⟨by rfl, rfl⟩) (by assumption) ?_
              try simp only [Act.put, List.setIfInBounds_toArray, List.set_cons_zero, List.set_cons_succ]
              refine wpAnyH_take (i := 10) (v := undef) (by simp only [List.getElem?_toArray, List.getElem?_cons_zero, List.getElem?_cons_succ]; exact rfl) (by kernel_rfl) (by kernel_rfl) (by kernel_rfl) (by intro _ _ _ h; exact h) (Or.inr ⟨by rfl, rfl⟩) (by assumption) ?_
              try simp only [Act.put, List.setIfInBounds_toArray, List.set_cons_zero, List.set_cons_succ]
              refine wpAnyH_take (i := 11) (v := undef) (by simp only [List.getElem?_toArray, List.getElem?_cons_zero, List.getElem?_cons_succ]; exact rfl) (by kernel_rfl) (by kernel_rfl) (by kernel_rfl) (by intro _ _ _ h; exact h) (Or.inr ⟨by rfl, rfl⟩) (by assumption) ?_
              try simp only [Act.put, List.setIfInBounds_toArray, List.set_cons_zero, List.set_cons_succ]
              refine wpAnyH_take (i := 12) (v := undef) (by simp only [List.getElem?_toArray, List.getElem?_cons_zero, List.getElem?_cons_succ]; exact rfl) (by kernel_rfl) (by kernel_rfl) (by kernel_rfl) (by intro _ _ _ h; exact h) (Or.inr ⟨by rfl, rfl⟩) (by assumption) ?_
              try simp only [Act.put, List.setIfInBounds_toArray, List.set_cons_zero, List.set_cons_succ]
              refine wpAnyH_take (i := 13) (v := undef) (by simp only [List.getElem?_toArray, List.getElem?_cons_zero, List.getElem?_cons_succ]; exact rfl) (by kernel_rfl) (by kernel_rfl) (by kernel_rfl) (by intro _ _ _ h; exact h) (Or.inr ⟨by rfl, rfl⟩) (by assumption) ?_
              try simp only [Act.put, List.setIfInBounds_toArray, List.set_cons_zero, List.set_cons_succ]
              refine wpAnyH_take (i := 14) (v := undef) (by simp only [List.getElem?_toArray, List.getElem?_cons_zero, List.getElem?_cons_succ]; exact rfl) (by kernel_rfl) (by kernel_rfl) (by kernel_rfl) (by intro _ _ _ h; exact h) (Or.inr ⟨by rfl, rfl⟩) (by assumption) ?_
              try simp only [Act.put, List.setIfInBounds_toArray, List.set_cons_zero, List.set_cons_succ]
              refine wpAnyH_take (i := 15) (v := undef) (by simp only [List.getElem?_toArray, List.getElem?_cons_zero, List.getElem?_cons_succ]; exact rfl) (by kernel_rfl) (by kernel_rfl) (by kernel_rfl) (by intro _ _ _ h; exact h) (Or.inr ⟨by rfl, rfl⟩) (by assumption) ?_
              try simp only [Act.put, List.setIfInBounds_toArray, List.set_cons_zero, List.set_cons_succ]
              refine wpAnyH_take (i := 16) (v := undef) (by simp only [List.getElem?_toArray, List.getElem?_cons_zero, List.getElem?_cons_succ]; exact rfl) (by kernel_rfl) (by kernel_rfl) (by kernel_rfl) (by intro _ _ _ h; exact h) (Or.inr ⟨by rfl, rfl⟩) (by assumption) ?_
              try simp only [Act.put, List.setIfInBounds_toArray, List.set_cons_zero, List.set_cons_succ]
              refine wpAnyH_take (i := 17) (v := undef) (by simp only [List.getElem?_toArray, List.getElem?_cons_zero, List.getElem?_cons_succ]; exact rfl) (by kernel_rfl) (by kernel_rfl) (by kernel_rfl) (by intro _ _ _ h; exact h) (Or.inr ⟨by rfl, rfl⟩) (by assumption) ?_
              try simp only [Act.put, List.setIfInBounds_toArray, List.set_cons_zero, List.set_cons_succ]
              refine wpAnyH_take (i := 18) (v := undef) (by simp only [List.getElem?_toArray, List.getElem?_cons_zero, List.getElem?_cons_succ]; exact rfl) (by kernel_rfl) (by kernel_rfl) (by kernel_rfl) (by intro _ _ _ h; exact h) (Or.inr ⟨by rfl, rfl⟩) (by assumption) ?_
              try simp only [Act.put, List.setIfInBounds_toArray, List.set_cons_zero, List.set_cons_succ]
              refine wpAnyH_take (i := 19) (v := undef) (by simp only [List.getElem?_toArray, List.getElem?_cons_zero, List.getElem?_cons_succ]; exact rfl) (by kernel_rfl) (by kernel_rfl) (by kernel_rfl) (by intro _ _ _ h; exact h) (Or.inr ⟨by rfl, rfl⟩) (by assumption) ?_
              try simp only [Act.put, List.setIfInBounds_toArray, List.set_cons_zero, List.set_cons_succ]
              refine wpAnyH_take (i := 20) (v := ?_) (by simp only [List.getElem?_toArray, List.getElem?_cons_zero, List.getElem?_cons_succ]; exact rfl) (by kernel_rfl) (by kernel_rfl) (by kernel_rfl) (by intro _ _ _ h; exact h) (Or.inl ⟨by rfl, ?_⟩) (by assumption) ?_
              rotate_left
              · intro w hSw
                (try dsimp only at hSw)
                go_simp
                try (with_reducible rfl)
              try simp only [Act.put, List.setIfInBounds_toArray, List.set_cons_zero, List.set_cons_succ]
              refine wpAnyH_done (by kernel_rfl) ?_ _
              go_wp2_with fail
              go_roundw
              case rel => exact ⟨j + 1, by omega, by go_num, hcz14.trans hcd⟩
              case measure => exact meas_lt (by omega)
          · obtain rfl : j = M.length := by omega
            have hor := fun W (hh : Ch No w6 W) => sweep_Outgoing No W qs cs M r (hM6.ch0 hh) hfr (hW6.ch0 hh) ir (fun _ e => e.elim)
            rw [HRE.out, show tally [] = [] from rfl] at hor
            simp only [List.length_nil] at hor
            have ha3 := fun W (hh : Ch No w6 W) => ref15_Of No W q6 c6 TG r (hs6.ch0 hh) hT100
            rw [HSE.out] at ha3
            go_wp2_with fail
            with_reducible refine (fixed18 _ (hW6.ch0 hcz)).mono ?_
            rintro e w7 ⟨rfl, hc7⟩
            dsimp only
            go_wp2_with fail
            with_reducible refine (hor w7 (hcz.trans hc7)).mono ?_
            rintro e w8 ⟨q8, c8, rfl, _, hc8⟩
            dsimp only
            go_wp2_with fail
            with_reducible refine (ha3 w8 ((hcz.trans hc7).trans hc8)).mono ?_
            rintro e w9 ⟨rfl, rfl⟩
            dsimp only
            go_wp2_with fail
            go_ret
            exact ⟨rfl, (hC6.trans hcz).trans (hc7.trans hc8)⟩
end Go.Proofs.YtdmhenanikkabaaDoor

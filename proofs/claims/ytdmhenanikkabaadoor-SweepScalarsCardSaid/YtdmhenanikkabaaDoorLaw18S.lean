/- Layer 18 (sweep): the law SweepScalars: the walk. -/
import Derived.Test.YtdmhenanikkabaaDoorSweepD
import Derived.Test.YtdmhenanikkabaaDoorSweepQ
import Derived.Test.YtdmhenanikkabaaDoorSame06
set_option linter.unusedVariables false
set_option linter.unusedSimpArgs false
namespace Go.Proofs.YtdmhenanikkabaaDoor
open Go Go.RowKit

theorem infoObj2 : (Tryd.prog.info? 30).map (fun i => (i.zero, i.size, i.bytes)) = some (some (.agg #[.int .i64 0, .int .i64 0, .bool false, .int .i64 0, .int .i64 0, .int .i64 0, .slice none 0 0, .slice none 0 0]), 8, 96) := by kernel_rfl
theorem infoU64 : (Tryd.prog.info? 36).map (fun i => (i.zero, i.size, i.bytes)) = some (some (.int .u64 0), 1, 8) := by kernel_rfl

set_option maxRecDepth 100000 in
set_option maxHeartbeats 8000000 in
theorem scalars18 (w : World) (q qr : Option Addr) (c cr : Nat) (l : List Ob) (rs : List Int) (y : Int) (h : SlR objRp No w q c l) (h2 : SlR (intRp .u64) No w qr cr rs) (iy : 0 ≤ y ∧ y ≤ 18446744073709551615) (hW : Wt w) (hl : l.length ≤ 9223372036854775807) (hlr : rs.length ≤ 9223372036854775807) :
    Calls Tryd.prog 4 #[.slice q l.length c, .slice qr rs.length cr, .int .u64 y] w fun e w' => e = .returned (.bool true) ∧ Ch No w w' := by
  have hgt := great18 w q c l h hl
  go_enter Tryd.func4, Tryd.ntmps4
  go_wp2_with fail
  with_reducible refine hgt.mono ?_
  rintro e w1 ⟨G0, rfl, hft, hc1⟩
  have hW1 := hW.ch0 hc1
  cases G0 with
  | true =>
    clear hft
    dsimp only
    go_wp2_with fail
    with_reducible refine (fixed18 w1 hW1).mono ?_
    rintro e w2 ⟨rfl, hc2⟩
    dsimp only
    go_wp2_with fail
    go_ret
    exact ⟨rfl, hc1.trans hc2⟩
  | false =>
    replace hft := hft rfl
    by_cases hrs : 60 < rs.length
    · have b1 : decide ((rs.length : Int) > 60) = true := decide_eq_true (by omega)
      dsimp only
      go_wp2_with fail
      with_reducible refine (fixed18 w1 hW1).mono ?_
      rintro e w2 ⟨rfl, hc2⟩
      dsimp only
      go_wp2_with fail
      go_ret
      exact ⟨rfl, hc1.trans hc2⟩
    have b1 : decide ((rs.length : Int) > 60) = false := decide_eq_false (by omega)
    have hrs60 : rs.length ≤ 60 := by omega
    have hl60 := hft.n
    clear hrs hgt
    obtain ⟨B, hB⟩ : ∃ z, z = w.heap.size := ⟨_, rfl⟩
    have h1 := (h.more (F' := fun k => B ≤ k) (fun k e => .inr (by omega))).ch0 hc1
    have hB1 : B ≤ w1.heap.size := by rw [hB]; exact hc1.size
    have HB := Lib.hid hB
    clear hB
    dsimp only
    go_wp2_with fail
    go_loopw [7, 23] (fun v u wr => ∃ (i : Nat) (M : List Ob), i ≤ l.length ∧ u = .int .i64 i ∧ OwnR objRp B 30 No wr v M ∧ Twins (l.take i) M ∧ B ≤ wr.heap.size ∧ SlR objRp (fun k => B ≤ k) wr q c l ∧ Ch No w wr) (fun _ u _ => l.length - (intOf u).toNat)
    case atStart => exact ⟨0, [], by omega, rfl, OwnR.nilR _ _ _ _ _, by simp [Twins], hB1, h1, hc1⟩
    case round =>
      obtain ⟨io, M, hio, rfl, ho, htw, hBr, hsl, hc⟩ := hrel
      clear h1 hB1
      have hML := htw.length
      rw [List.length_take] at hML
      by_cases hlt : io < l.length
      · obtain ⟨b, off, rfl, _, _, hcs, ia, ig, hkk, hvv⟩ := hsl.obj_at io hlt
        have hko := hft.k _ (List.getElem_mem hlt)
        have htx : ∀ o', Tw l[io] o' → Twins (l.take (io + 1)) (M ++ [o']) := fun o' hh => by
          rw [List.take_succ_eq_append_getElem hlt]
          exact htw.snoc hh
        obtain ⟨o, hoe⟩ : ∃ z, z = l[io] := ⟨_, rfl⟩
        rw [← hoe] at hcs ia ig hkk hvv hko
        simp only [← hoe] at htx
        have hM60 : M.length ≤ 60 := by omega
        have d0 := hcs 0 _ rfl
        have d1 := hcs 1 _ rfl
        have d2 := hcs 2 _ rfl
        have d3 := hcs 3 _ rfl
        have d4 := hcs 4 _ rfl
        have d5 := hcs 5 _ rfl
        have d6 := hcs 6 _ rfl
        have d7 := hcs 7 _ rfl
        rw [Nat.add_zero] at d0
        obtain ⟨C9, hC9⟩ : ∃ z, z = wr.heap.size := ⟨_, rfl⟩
        obtain ⟨w9, hw9⟩ : ∃ z, z = wr.alloc (.cells o.cells.toArray 30) := ⟨_, rfl⟩
        have hc9 : Ch No wr w9 := by rw [hw9]; exact (Ch.refl _ _).alloc _
        have k9 : w9.heap[C9]? = some (.cells o.cells.toArray 30 (0, 0)) := by rw [hw9, hC9]; exact heap_alloc_new _ _
        obtain ⟨Bv, hBv⟩ : ∃ z, z = C9 + 1 := ⟨_, rfl⟩
        have hs9 : w9.heap.size = Bv := by rw [hw9, hBv, hC9]; simp
        obtain ⟨w10, hw10⟩ : ∃ z, z = w9.alloc (.cells #[] 36) := ⟨_, rfl⟩
        have hc10 : Ch No w9 w10 := by rw [hw10]; exact (Ch.refl _ _).alloc _
        have ho10 : OwnR (intRp .u64) Bv 36 No w10 (.slice (some ⟨Bv, 0, none⟩) 0 0) [] := by rw [hw10, ← hs9]; exact OwnR.lit0 (Nat.le_refl _)
        have k10 := hc10.heap k9 (fun e => e)
        simp only [Ob.cells] at hw9 k9 k10
        have hBC : C9 < Bv ∧ B ≤ C9 ∧ B ≤ Bv := by omega
        have hvv10 : SlR (intRp .u64) (fun k => No k ∨ (Value.slice (some ⟨Bv, 0, none⟩) 0 0).ownBlock = some k) w10 o.va o.vc o.vals := ((hvv.ch0 hc9).ch0 hc10).more (fun k e => e.elim (fun z => z.elim) (fun z => .inl (by have e2 : Bv = k := (by simpa [Value.ownBlock] using z); omega)))
        have hB10 : Bv ≤ w10.heap.size := by rw [← hs9]; exact hc10.size
        have y7 := cellOf k10 7 rfl
        have HC9 := Lib.hid hC9
        have HW9 := Lib.hid hw9
        have HBV := Lib.hid hBv
        have HW10 := Lib.hid hw10
        have HTX := Lib.hid htx
        have HOE := Lib.hid hoe
        have hkk10 := (hkk.ch0 hc9).ch0 hc10
        have ho2 := (ho.ch0 hc9).ch0 hc10
        have hsl10 := (hsl.ch0 hc9).ch0 hc10
        have hC10 := (hc.trans hc9).trans hc10
        have hwr : ∀ k, u7.ownBlock = some k → k < C9 := fun k e => by rw [HC9.out]; exact (ho.blk k e).2
        have h63 : ([] : List Int).length + o.vals.length ≤ 9223372036854775807 := by simp; omega
        have h64 : (([] : List Int).length + o.vals.length) * 8 ≤ 140737488355328 := by simp; omega
        clear hcs hC9 hw9 htx hoe htw hBv hw10 hML hs9
        go_wp2_with (at_builtin; rw [← HW9.out, ← HC9.out, ← HW10.out, ← HBV.out]; go_loud (refine wpL_appendR rfl _ _ _ rfl Bv 36 (.int .u64 0) 1 8 Tryd.underlying23 infoU64 rfl (by decide) (intRp .u64) rfl No (.slice (some ⟨Bv, 0, none⟩) 0 0) [] rfl ho10 o.va o.vc o.vals rfl hvv10 h63 h64 hB10 ?_); intro v11 w11 ho11 hg11 hk11; rw [List.nil_append] at ho11; have k11 := hk11.heap k10 (fun e => by have e2 : Bv = C9 := (by simpa [Value.ownBlock] using e); omega); obtain ⟨a11, c11, hv11, hs11⟩ := ho11.sl (fun _ e => e.elim); subst hv11; have f7 := freeOf k11 7; have z7 := cellOf k11 7 rfl; have k12 := heap_set (i := 7) k11 (.slice a11 o.vals.length c11); have x7 := cellOf k12 7 rfl)
        obtain ⟨w12, hw12⟩ : ∃ z, z = w11.setCell ⟨C9, 7, none⟩ (.slice a11 o.vals.length c11) := ⟨_, rfl⟩
        rw [← hw12] at k12 ⊢
        have hc12 : Ch (fun k => k = C9) w11 w12 := by rw [hw12]; exact Ch.setIn (F := fun k => k = C9) (Ch.refl _ _) (p := ⟨C9, 7, none⟩) rfl _
        have hown : ∀ k, (Value.slice (some ⟨Bv, 0, none⟩) 0 0).ownBlock = some k → k = Bv := fun k e => by have e2 : Bv = k := (by simpa [Value.ownBlock] using e); exact e2.symm
        have hk12 : Ch (fun k => C9 ≤ k) w10 w12 := (hk11.mono (fun k e => by have := hown k e; show C9 ≤ k; omega)).trans (hc12.mono (fun k e => by show C9 ≤ k; omega))
        have hr12 : Ch No wr w12 := (hc9.trans hc10).andThen hk12 (fun k e => .inr (by have := HC9.out; omega))
        have ho12 : OwnR (intRp .u64) Bv 36 No w12 (.slice a11 o.vals.length c11) o.vals := by
          have h1 : OwnR (intRp .u64) Bv 36 (fun k => k = C9) w11 (.slice a11 o.vals.length c11) o.vals := OwnR.ofInts ho11.ints.1 rfl ho11.ints.2
          have h2 := h1.ch hc12 (fun k e => e) (fun k e => by omega)
          exact OwnR.ofInts h2.ints.1 rfl h2.ints.2
        have hkk12 := hkk10.ch hk12 (fun k e => by have e2 : C9 ≤ k := e; omega)
        have hsl12 := hsl10.ch hk12 (fun k e => by have e2 : C9 ≤ k := e; show B ≤ k; omega)
        have hcO : ∀ W, Ch (fun k => Bv ≤ k) w12 W → Ch No wr W := fun W hh => hr12.andThen hh (fun k e => .inr (by have e2 : Bv ≤ k := e; have := HC9.out; omega))
        have hB12 : ∀ W, Ch (fun k => Bv ≤ k) w12 W → Bv ≤ W.heap.size := fun W hh => by have h1 := hh.size; have h2 := hk12.size; omega
        clear hown hw12 k9 k10 k11 ho10 ho11 hg11 hs11 hk11 f7 z7 x7 hvv10 y7 hkk10 hsl10 hc12 hk12 ho2
        go_loopw [35] (fun u wz => ∃ (i : Nat) (X : List Int), i ≤ o.vals.length ∧ u = .int .i64 i ∧ X.length = o.vals.length ∧ (∀ j : Nat, (i ≤ j ∨ o.kinds[j]? = some 1) → X[j]? = o.vals[j]?) ∧ OwnR (intRp .u64) Bv 36 No wz (.slice a11 o.vals.length c11) X ∧ Ch (fun k => Bv ≤ k) w12 wz) (fun u _ => o.vals.length - (intOf u).toNat)
        case atStart => exact ⟨0, o.vals, by omega, rfl, rfl, fun _ _ => rfl, ho12, Ch.refl _ _⟩
        case round =>
          obtain ⟨i, X, hi, rfl, hXl, hX, hoX, hcz⟩ := hrel
          have HX := Lib.hid hX
          have kz := hcz.heap k12 (fun e => by have e2 : Bv ≤ C9 := e; omega)
          have hkz := hkk12.ch hcz (fun k e => by have e2 : Bv ≤ k := e; omega)
          have z6 := cellOf kz 6 rfl
          have z7 := cellOf kz 7 rfl
          clear hX
          by_cases hiv : i < o.vals.length
          · obtain ⟨g, cap, hv, hgB, hgl, hle, hcl, hfr⟩ := hoX.int_form (by omega)
            rw [Value.slice.injEq] at hv
            obtain ⟨rfl, hvl, rfl⟩ := hv
            clear hvl
            have dc := hcl i (by omega)
            have df := hfr i
            have hxI := hoX.ints.2 _ (List.getElem_mem (by omega : i < X.length))
            obtain ⟨xv, hxv⟩ : ∃ z, z = X[i]'(by omega) := ⟨_, rfl⟩
            rw [← hxv] at dc hxI
            obtain ⟨NV, hNV⟩ : ∃ z, z = IntKind.u64.wrap (xv + y) := ⟨_, rfl⟩
            have hNI : InK .u64 NV := by rw [hNV, show IntKind.u64.wrap (xv + y) = (xv + y) % 18446744073709551616 from rfl]; exact show _ ∧ _ from by omega
            have e1 : IntKind.u64.wrap (xv + y) = NV := hNV.symm
            have hset := hoX.int_set hXl.symm i NV hNI
            clear hcl hfr
            have hch := hcz.setIn (p := ⟨g, i, none⟩) hgB (.int .u64 NV)
            have HXL := Lib.hid hXl
            by_cases hik : i < o.kinds.length
            · obtain ⟨bk, ok', hka, _, _, dk, ikk⟩ := hkz.int_at i hik
              have hkg : o.kinds[i]? = some o.kinds[i] := List.getElem?_eq_getElem hik
              obtain ⟨k, hk⟩ : ∃ z, z = o.kinds[i] := ⟨_, rfl⟩
              rw [← hk] at dk ikk hkg
              rw [hka] at z6
              clear hka
              by_cases hk0 : k = 0
              · have b2 : (k == 0) = true := by simp [hk0]
                have hkn : o.kinds[i]? ≠ some 1 := by rw [hkg, hk0]; simp
                clear hk0 hk hkg hNV hxv
                have hX2 : ∀ j : Nat, (i + 1 ≤ j ∨ o.kinds[j]? = some 1) → (X.set i NV)[j]? = o.vals[j]? := fun j hj => by
                  have hji : j ≠ i := fun e => by subst e; rcases hj with e | e; omega; exact hkn e
                  rw [List.getElem?_set_ne (by omega)]
                  exact HX.out j (hj.imp (fun z => by omega) id)
                have hXl2 : (X.set i NV).length = o.vals.length := by rw [List.length_set, hXl]
                have HX2 := Lib.hid hX2
                have HXL2 := Lib.hid hXl2
                clear hX2 hXl2 hkn
                go_wp2_with fail
                go_roundw
                case rel => exact ⟨i + 1, X.set i NV, by omega, by go_num, HXL2.out, HX2.out, hset, hch⟩
                case measure => exact meas_lt (by omega)
              · have b2 : (k == 0) = false := by simp [hk0]
                clear hk0 hk hkg hNV hxv hset hch e1 hNI
                go_wp2_with fail
                go_roundw
                case rel => exact ⟨i + 1, X, by omega, by go_num, HXL.out, fun j hj => HX.out j (hj.imp (fun z => by omega) id), hoX, hcz⟩
                case measure => exact meas_lt (by omega)
            · have hge : o.kinds.length ≤ i := by omega
              have b2 : decide ((i : Int) ≥ (o.kinds.length : Int)) = true := decide_eq_true (by omega)
              have hkn : o.kinds[i]? ≠ some 1 := by rw [List.getElem?_eq_none hge]; simp
              clear hNV hxv
              have hX2 : ∀ j : Nat, (i + 1 ≤ j ∨ o.kinds[j]? = some 1) → (X.set i NV)[j]? = o.vals[j]? := fun j hj => by
                have hji : j ≠ i := fun e => by subst e; rcases hj with e | e; omega; exact hkn e
                rw [List.getElem?_set_ne (by omega)]
                exact HX.out j (hj.imp (fun z => by omega) id)
              have hXl2 : (X.set i NV).length = o.vals.length := by rw [List.length_set, hXl]
              have HX2 := Lib.hid hX2
              have HXL2 := Lib.hid hXl2
              clear hX2 hXl2 hkn
              go_wp2_with fail
              go_roundw
              case rel => exact ⟨i + 1, X.set i NV, by omega, by go_num, HXL2.out, HX2.out, hset, hch⟩
              case measure => exact meas_lt (by omega)
          · obtain rfl : i = o.vals.length := by omega
            have hall := HX.out
            have z0 := cellOf kz 0 rfl
            have z1 := cellOf kz 1 rfl
            have z2 := cellOf kz 2 rfl
            have z3 := cellOf kz 3 rfl
            have z4 := cellOf kz 4 rfl
            have z5 := cellOf kz 5 rfl
            have hoz := ho.ch0 (hcO _ hcz)
            have hBz := hB12 _ hcz
            have hkz' := hkz.more (F' := fun k => No k ∨ u7.ownBlock = some k) (fun k e => e.elim (fun z => z.elim) (fun z => .inl (hoz.blk k z).1))
            obtain ⟨aX, cX, hvX, hsX⟩ := (OwnR.ofInts (F := fun k => No k ∨ u7.ownBlock = some k) hoX.ints.1 rfl hoX.ints.2).sl (fun k e => e.elim (fun z => z.elim) (fun z => by have := hwr k z; omega))
            rw [Value.slice.injEq] at hvX
            obtain ⟨rfl, hvl, rfl⟩ := hvX
            clear hvl
            obtain ⟨o', ho'⟩ : ∃ z : Ob, z = ⟨o.at_, o.reg, o.arr, o.hk, o.ht, o.hn, o.ka, o.kc, a11, c11, o.kinds, X⟩ := ⟨_, rfl⟩
            have htw2 : Tw o o' := by rw [ho']; exact ⟨rfl, rfl, rfl, hXl, fun j hj => hall j (.inr hj)⟩
            have hR : ∀ W, Ch No wr W → objRp.R (fun k => No k ∨ u7.ownBlock = some k) W [.int .i64 o.at_, .int .i64 o.reg, .bool o.arr, .int .i64 o.hk, .int .i64 o.ht, .int .i64 o.hn, .slice o.ka o.kinds.length o.kc, .slice a11 o.vals.length c11] o' := fun W hh => by
              rw [ho']
              exact ⟨by simp [Ob.cells, hXl], ia, ig, hkz'.ch0 hh, hsX.ch0 hh⟩
            have hRr := hR _ (Ch.refl _ _)
            have HT2 := Lib.hid (HTX.out o' htw2)
            have hslz := hsl12.ch hcz (fun k e => by have e2 : Bv ≤ k := e; show B ≤ k; omega)
            have hCz := hc.trans (hcO _ hcz)
            have hB3 : B ≤ wr.heap.size := by omega
            clear ho' htw2 hR hall hXl kz hkz hkz' hsX
            go_wp2_with (at_builtin; go_loud (refine wpL_push rfl _ _ _ rfl B 30 (.agg #[.int .i64 0, .int .i64 0, .bool false, .int .i64 0, .int .i64 0, .int .i64 0, .slice none 0 0, .slice none 0 0]) 8 96 Tryd.underlying22 infoObj2 rfl (by decide) objRp rfl No u7 M rfl hoz [.int .i64 o.at_, .int .i64 o.reg, .bool o.arr, .int .i64 o.hk, .int .i64 o.ht, .int .i64 o.hn, .slice o.ka o.kinds.length o.kc, .slice a11 o.vals.length c11] _ o' 1 (by go_simp) hRr (fun _ e => e.elim) (by omega) (by omega) hB3 ?_); intro v10 w10' ho10 hg10 hk10)
            go_roundw
            case rel => exact ⟨io + 1, M ++ [o'], by omega, by go_num, ho10, HT2.out, by have := hk10.size; omega, hslz.ch hk10 (fun k z => (hoz.blk _ z).1), hg10 No w (by have := HB.out; omega) hCz⟩
            case measure => exact meas_lt (by omega)
      · obtain rfl : io = l.length := by omega
        rw [List.take_length] at htw
        obtain ⟨qs, cs, hv7, hs7⟩ := ho.sl (fun _ e => e.elim)
        subst hv7
        have hfm := twins_Fits htw hft
        have hM60 := hfm.n
        have hou := fun g => twins_outs htw g
        have hin := twins_ins htw rs
        have hlN := hsl.more (F' := No) (fun k e => e.elim)
        have hWr := hW.ch0 hc
        have h2r := h2.ch0 hc
        have HOU := Lib.hid hou
        have hcA := fun W (hh : Ch No wr W) => sweep_Counts No W q qr c cr l rs (hlN.ch0 hh) (h2r.ch0 hh) hft hrs60 (hWr.ch0 hh) (fun _ e => e.elim)
        have hcB := fun W (hh : Ch No wr W) => sweep_Counts No W qs qr cs cr M rs (hs7.ch0 hh) (h2r.ch0 hh) hfm hrs60 (hWr.ch0 hh) (fun _ e => e.elim)
        rw [hin] at hcB
        have hcl := tally_len (ins_ l rs)
        have hcl2 := (ins_ok hft rs hrs60).2
        obtain ⟨TI, hTI⟩ : ∃ z, z = tally (ins_ l rs) := ⟨_, rfl⟩
        simp only [← hTI] at hcA hcB hcl
        have hTI1 : TI.length ≤ 100000 := by omega
        clear htw hou hin hTI hcl hcl2 hML
        go_wp2_with fail
        go_loopw [67] (fun u wz => ∃ (j : Nat), j ≤ l.length ∧ u = .int .i64 j ∧ Ch No wr wz) (fun u _ => l.length - (intOf u).toNat)
        case atStart => exact ⟨0, by omega, rfl, Ch.refl _ _⟩
        case round =>
          obtain ⟨j, hj, rfl, hcz⟩ := hrel
          by_cases hjl : j < l.length
          · obtain ⟨b, off, rfl, _, _, hcx, iax, igx, _, _⟩ := (hlN.ch0 hcz).obj_at j hjl
            obtain ⟨x, hx⟩ : ∃ z, z = l[j] := ⟨_, rfl⟩
            rw [← hx] at hcx iax igx
            have d0 := hcx 0 _ rfl
            have d1 := hcx 1 _ rfl
            have d2 := hcx 2 _ rfl
            have d3 := hcx 3 _ rfl
            have d4 := hcx 4 _ rfl
            have d5 := hcx 5 _ rfl
            have d6 := hcx 6 _ rfl
            have d7 := hcx 7 _ rfl
            rw [Nat.add_zero] at d0
            obtain ⟨C12, hC12⟩ : ∃ z, z = wr.heap.size := ⟨_, rfl⟩
            obtain ⟨w14, hw14⟩ : ∃ z, z = wr.alloc (.cells x.cells.toArray 30) := ⟨_, rfl⟩
            have hc14 : Ch No wr w14 := by rw [hw14]; exact (Ch.refl _ _).alloc _
            have k14 : w14.heap[C12]? = some (.cells x.cells.toArray 30 (0, 0)) := by rw [hw14, hC12]; exact heap_alloc_new _ _
            simp only [Ob.cells] at hw14 k14
            have y1 := cellOf k14 1 rfl
            have HC14 := Lib.hid hC12
            have HW14 := Lib.hid hw14
            obtain ⟨g, hg⟩ : ∃ z, z = x.reg := ⟨_, rfl⟩
            rw [← hg] at igx y1
            have HG := Lib.hid hg
            have hcz14 := hcz.trans hc14
            have hcd : Ch No w14 w14.drew := (Ch.refl _ _).drew
            have K20 : ∀ W, Ch No w14 W → (fun w' : World => w'.cell? ⟨C12, 1, none⟩ = some (.int .i64 g)) W := fun W hh => hh.cell y1 (fun e => e)
            have a1 := fun W (hh : Ch No w14 W) => sweep_Outgoing No W _ c l g ((hlN.ch0 hcz14).ch0 hh) hft ((hWr.ch0 hcz14).ch0 hh) igx (fun _ e => e.elim)
            have a2 := fun W (hh : Ch No w14 W) => sweep_Outgoing No W qs cs M g ((hs7.ch0 hcz14).ch0 hh) hfm ((hWr.ch0 hcz14).ch0 hh) igx (fun _ e => e.elim)
            rw [HOU.out g] at a2
            have hol := tally_len (outs l g)
            have hol2 := (outs_ok hft g).2
            obtain ⟨TO, hTO⟩ : ∃ z, z = tally (outs l g) := ⟨_, rfl⟩
            simp only [← hTO] at a1 a2 hol
            have a3 := fun W q q' c c' h h' => ref06_Same No No W q q' c c' TO TO h h' (by omega) (by omega)
            rw [decide_eq_true rfl] at a3
            clear hTO hol hol2 hcx hC12 hw14 hx hg
            go_wp2_with fail
            rw [← HW14.out, ← HC14.out]
            refine wp_region_held_drew (S := (fun w' : World => w'.cell? ⟨C12, 1, none⟩ = some (.int .i64 g))) (by kernel_rfl) (K20 _ hcd) (fun hHeld => ?_)
            refine wpAnyH_take (i := 0) (v := ?_) (by simp only [List.getElem?_toArray, List.getElem?_cons_zero, List.getElem?_cons_succ]; exact rfl) (by kernel_rfl) (by kernel_rfl) (by kernel_rfl) (by intro _ _ _ h; exact h) (Or.inl ⟨by rfl, ?_⟩) (by assumption) ?_
            rotate_left
            · intro w hSw
              (try dsimp only at hSw)
              go_simp
              try (with_reducible rfl)
            try simp only [Act.put, List.setIfInBounds_toArray, List.set_cons_zero, List.set_cons_succ]
            refine wpAnyH_take (i := 1) (v := ?_) (by simp only [List.getElem?_toArray, List.getElem?_cons_zero, List.getElem?_cons_succ]; exact rfl) (by kernel_rfl) (by kernel_rfl) (by kernel_rfl) (by intro _ _ _ h; exact h) (Or.inl ⟨by rfl, ?_⟩) (by assumption) ?_
            rotate_left
            · intro w hSw
              (try dsimp only at hSw)
              go_simp
              try (with_reducible rfl)
            try simp only [Act.put, List.setIfInBounds_toArray, List.set_cons_zero, List.set_cons_succ]
            refine wpAnyH_take (i := 2) (v := ?_) (by simp only [List.getElem?_toArray, List.getElem?_cons_zero, List.getElem?_cons_succ]; exact rfl) (by kernel_rfl) (by kernel_rfl) (by kernel_rfl) (by intro _ _ _ h; exact h) (Or.inl ⟨by rfl, ?_⟩) (by assumption) ?_
            rotate_left
            · intro w hSw
              (try dsimp only at hSw)
              go_simp
              try (with_reducible rfl)
            try simp only [Act.put, List.setIfInBounds_toArray, List.set_cons_zero, List.set_cons_succ]
            refine wpAnyH_take (i := 4) (v := ?_) (by simp only [List.getElem?_toArray, List.getElem?_cons_zero, List.getElem?_cons_succ]; exact rfl) (by kernel_rfl) (by kernel_rfl) (by kernel_rfl) (by intro _ _ _ h; exact h) (Or.inl ⟨by rfl, ?_⟩) (by assumption) ?_
            rotate_left
            · intro w hSw
              (try dsimp only at hSw)
              go_simp
              try (with_reducible rfl)
            try simp only [Act.put, List.setIfInBounds_toArray, List.set_cons_zero, List.set_cons_succ]
            refine wpAnyH_take (i := 5) (v := ?_) (by simp only [List.getElem?_toArray, List.getElem?_cons_zero, List.getElem?_cons_succ]; exact rfl) (by kernel_rfl) (by kernel_rfl) (by kernel_rfl) (by intro _ _ _ h; exact h) (Or.inl ⟨by rfl, ?_⟩) (by assumption) ?_
            rotate_left
            · intro w hSw
              (try dsimp only at hSw)
              go_simp
              try (with_reducible rfl)
            try simp only [Act.put, List.setIfInBounds_toArray, List.set_cons_zero, List.set_cons_succ]
            refine wpAnyH_take (i := 6) (v := ?_) (by simp only [List.getElem?_toArray, List.getElem?_cons_zero, List.getElem?_cons_succ]; exact rfl) (by kernel_rfl) (by kernel_rfl) (by kernel_rfl) (by intro _ _ _ h; exact h) (Or.inl ⟨by rfl, ?_⟩) (by assumption) ?_
            rotate_left
            · intro w hSw
              (try dsimp only at hSw)
              go_simp
              try (with_reducible rfl)
            try simp only [Act.put, List.setIfInBounds_toArray, List.set_cons_zero, List.set_cons_succ]
            refine wpAnyH_ready (rs := [3]) (by kernel_rfl) (by simp) ?_
            refine AllReadyH.cons (by simp only [List.getElem?_toArray, List.getElem?_cons_zero, List.getElem?_cons_succ]; exact rfl) (fun K hK => ?_) AllReadyH.nil
            go_simp
            (go_at_call 7; (with_reducible refine (a1 w14.drew hcd).mono ?_); rintro e w15 ⟨q15, c15, rfl, hs15, hc15⟩; have hd15 := hcd.trans hc15; have hS9 := K20 w15 hd15; (try dsimp only))
            try go_wp2_with fail
            refine hK.out _ _ ?_ (fun hHeld => ?_)
            · try dsimp only
              first | assumption | exact (by assumption) | fail
            clear hK K
            try simp only [Act.put, List.setIfInBounds_toArray, List.set_cons_zero, List.set_cons_succ]
            refine wpAnyH_ready (rs := [7]) (by kernel_rfl) (by simp) ?_
            refine AllReadyH.cons (by simp only [List.getElem?_toArray, List.getElem?_cons_zero, List.getElem?_cons_succ]; exact rfl) (fun K hK => ?_) AllReadyH.nil
            go_simp
            (go_at_call 7; (with_reducible refine (a2 w15 hd15).mono ?_); rintro e w16 ⟨q16, c16, rfl, hs16, hc16⟩; have hd16 := hd15.trans hc16; have hS9 := K20 w16 hd16; (try dsimp only))
            try go_wp2_with fail
            refine hK.out _ _ ?_ (fun hHeld => ?_)
            · try dsimp only
              first | assumption | exact (by assumption) | fail
            clear hK K
            try simp only [Act.put, List.setIfInBounds_toArray, List.set_cons_zero, List.set_cons_succ]
            refine wpAnyH_ready (rs := [8]) (by kernel_rfl) (by simp) ?_
            refine AllReadyH.cons (by simp only [List.getElem?_toArray, List.getElem?_cons_zero, List.getElem?_cons_succ]; exact rfl) (fun K hK => ?_) AllReadyH.nil
            go_simp
            (go_at_call 10; (with_reducible refine (a3 w16 q15 q16 c15 c16 (hs15.ch0 hc16) hs16).mono ?_); rintro e w17 ⟨rfl, hc17⟩; have hd17 := hd16.trans hc17; have hS9 := K20 w17 hd17; (try dsimp only))
            try go_wp2_with fail
            refine hK.out _ _ ?_ (fun hHeld => ?_)
            · try dsimp only
              first | assumption | exact (by assumption) | fail
            clear hK K
            try simp only [Act.put, List.setIfInBounds_toArray, List.set_cons_zero, List.set_cons_succ]
            refine wpAnyH_take (i := 9) (v := ?_) (by simp only [List.getElem?_toArray, List.getElem?_cons_zero, List.getElem?_cons_succ]; exact rfl) (by kernel_rfl) (by kernel_rfl) (by kernel_rfl) (by intro _ _ _ h; exact h) (Or.inl ⟨by rfl, ?_⟩) (by assumption) ?_
            rotate_left
            · intro w hSw
              (try dsimp only at hSw)
              go_simp
              try (with_reducible rfl)
            try simp only [Act.put, List.setIfInBounds_toArray, List.set_cons_zero, List.set_cons_succ]
            refine wpAnyH_done (by kernel_rfl) ?_ _
            go_wp2_with fail
            go_roundw
            case rel => exact ⟨j + 1, by omega, by go_num, hcz14.trans hd17⟩
            case measure => exact meas_lt (by omega)
          · obtain rfl : j = l.length := by omega
            go_wp2_with fail
            with_reducible refine (fixed18 _ (hWr.ch0 hcz)).mono ?_
            rintro e w7 ⟨rfl, hc7⟩
            dsimp only
            go_wp2_with fail
            with_reducible refine (hcA w7 (hcz.trans hc7)).mono ?_
            rintro e w8 ⟨q8, c8, rfl, hs8, hc8⟩
            dsimp only
            go_wp2_with fail
            with_reducible refine (hcB w8 ((hcz.trans hc7).trans hc8)).mono ?_
            rintro e w9 ⟨q9, c9, rfl, hs9, hc9⟩
            have hsm := ref06_Same No No w9 q8 q9 c8 c9 TI TI (hs8.ch0 hc9) hs9 hTI1 hTI1
            rw [decide_eq_true rfl] at hsm
            dsimp only
            go_wp2_with fail
            with_reducible refine hsm.mono ?_
            rintro e w10 ⟨rfl, hc10⟩
            dsimp only
            go_wp2_with fail
            go_ret
            exact ⟨rfl, (hc.trans hcz).trans (((hc7.trans hc8).trans hc9).trans hc10)⟩
end Go.Proofs.YtdmhenanikkabaaDoor

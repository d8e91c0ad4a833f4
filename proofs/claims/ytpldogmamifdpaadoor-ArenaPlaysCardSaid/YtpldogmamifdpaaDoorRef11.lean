/- The reference of arena: Pages, Has, Release, Alloc; an arena's Fits. -/
import Derived.Test.YtpldogmamifdpaaDoorRef03
import Derived.Test.YtpldogmamifdpaaDoorPlanRef
import Derived.Test.YtpldogmamifdpaaDoorArena5
import Derived.Test.YtpldogmamifdpaaDoorArena8
import Derived.Test.YtpldogmamifdpaaDoorApart
set_option linter.unusedVariables false
set_option linter.unusedSimpArgs false
namespace Go.Proofs.YtpldogmamifdpaaDoor
open Go Go.RowKit

theorem no_new {F : Nat → Prop} {w w' : World} (hF : ∀ k, F k → k < w.heap.size) (hc : w.heap.size ≤ w'.heap.size) : ∀ k, F k → k < w'.heap.size := fun k q => Nat.lt_of_lt_of_le (hF k q) hc

/-- Fits tells whether Alloc would answer no error. -/
theorem arena_Fits (w : World) (base b p s p0 g m h : Nat) (pg us : Int) (rv tv : Value) (R T : List (Int × Int)) (x : List Bool) (W : List Int) (size : Int) (ha : ArenaAt w base b (.pointer (some ⟨s, 0, none⟩)) p pg us rv tv R T) (hk : PagesAt w s p0 g m h x W) (hn : Nw w) (hs : I64 size) :
    Calls Tryd.prog 10 #[.pointer (some ⟨b, 0, none⟩), .int .i64 size] w fun e w' => ∃ r : Bool, e = .returned (.bool r) ∧ Ch No w w' ∧ ∀ (pg' : Int) (a E : Int) (s' : S11), AllocX ⟨x, pg, us, R, T⟩ size a E s' → r = decide (E = 0) := by
  have c0 : w.cell? ⟨b, 0, none⟩ = some (.pointer (some ⟨s, 0, none⟩)) := cellOf ha.head 0 rfl
  have c1 : w.cell? ⟨b, 1, none⟩ = some (.pointer (some ⟨p, 0, none⟩)) := cellOf ha.head 1 rfl
  have hnd := plan_Need w p pg us size ha.plan hn hs
  by_cases hE : needE size = 1
  · rw [hE] at hnd
    have key : ∀ (pg' : Int) (a E : Int) (s' : S11), AllocX ⟨x, pg, us, R, T⟩ size a E s' → false = decide (E = 0) := by
      rintro _ a E s' ⟨V, V', h1 | h1 | h1 | h1⟩
      · rw [h1.2.2.1]; rfl
      · have := h1.1; omega
      · have := h1.1; omega
      · have := h1.1; omega
    have KEY := Lib.hid key
    clear hE key
    obtain ⟨M, hM⟩ : ∃ z, z = needN us size := ⟨_, rfl⟩
    rw [← hM] at hnd
    clear hM
    go_enter Tryd.func10, Tryd.ntmps10
    go_wp2_with fail
    with_reducible refine hnd.mono ?_
    rintro e w1 ⟨rfl, hc1⟩
    dsimp only
    go_wp2_with fail
    go_ret
    exact ⟨false, rfl, hc1, KEY.out⟩
  · have hE0 : needE size = 0 := by unfold needE at hE ⊢; split at hE <;> simp_all
    rw [hE0] at hnd
    by_cases hN : needN us size = 0
    · have key : ∀ (pg' : Int) (a E : Int) (s' : S11), AllocX ⟨x, pg, us, R, T⟩ size a E s' → true = decide (E = 0) := by
        rintro _ a E s' ⟨V, V', h1 | h1 | h1 | h1⟩
        · have := h1.1; omega
        · rw [h1.2.2.2.1]; rfl
        · have := h1.2.1; dsimp only at this; omega
        · have := h1.2.1; dsimp only at this; omega
      have KEY := Lib.hid key
      rw [hN] at hnd
      clear hE hE0 hN key
      go_enter Tryd.func10, Tryd.ntmps10
      go_wp2_with fail
      with_reducible refine hnd.mono ?_
      rintro e w1 ⟨rfl, hc1⟩
      dsimp only
      go_wp2_with fail
      go_ret
      exact ⟨true, rfl, hc1, KEY.out⟩
    · have hM2 : I64 (needN us size) ∧ 0 < needN us size := by
        have hb := ha.plan.ok.bd
        have hq : ¬ (size < 1 ∨ 16384 < size) := fun q => hN (by unfold needN; rw [if_pos q])
        have hq2 : ¬ (size ≤ 16 - us) := fun q => hN (by unfold needN; rw [if_neg hq, if_pos q])
        have := needN_pos (us := us) (size := size) hq hq2 hb.2.2.1
        exact ⟨show _ ∧ _ from by omega, this.1⟩
      have key : ∀ r, FindI x (needN us size) r → ∀ (pg' : Int) (a E : Int) (s' : S11), AllocX ⟨x, pg, us, R, T⟩ size a E s' → r.isSome = decide (E = 0) := by
        rintro r hr _ a E s' ⟨V, V', h1 | h1 | h1 | h1⟩
        · have := h1.1; omega
        · exact absurd h1.2.1 hN
        · obtain ⟨_, _, h2, _, h3, _⟩ := h1
          unfold FindI at hr
          rw [if_neg (by omega)] at hr
          rw [h2.uniq hr |>.symm, h3]; rfl
        · obtain ⟨_, _, j, h2, _, h3, _⟩ := h1
          unfold FindI at hr
          rw [if_neg (by omega)] at hr
          rw [h2.uniq hr |>.symm, h3]; rfl
      have KEY := Lib.hid key
      have b1 : (needN us size == 0) = false := by simp; omega
      obtain ⟨M, hM⟩ : ∃ z, z = needN us size := ⟨_, rfl⟩
      rw [← hM] at hnd b1 hM2 KEY
      clear hE hE0 hN key hM
      go_enter Tryd.func10, Tryd.ntmps10
      go_wp2_with fail
      with_reducible refine hnd.mono ?_
      rintro e w1 ⟨rfl, hc1⟩
      have c0 := hc1.cell c0 (fun q => q)
      have hft := pages_Fits w1 s p0 g m h x W M (hk.ch0 hc1) hM2.1
      dsimp only
      go_wp2_with fail
      with_reducible refine hft.mono ?_
      rintro e w2 ⟨r, rfl, hr, rfl⟩
      have HR := Lib.hid hr
      clear hr
      dsimp only
      go_wp2_with fail
      go_ret
      exact ⟨r.isSome, rfl, hc1, KEY.out r HR.out⟩

/-! ### The reference -/

theorem sumR_step {R : List (Int × Int)} {k : Nat} (hk : k < R.length) : (pagesOf (R.take (k + 1))).length = (pagesOf (R.take k)).length + R[k].2.toNat := by
  rw [List.take_succ_eq_append_getElem hk, pagesOf_length, pagesOf_length, List.map_append, List.sum_append]
  simp

theorem ref11_Pages (F : Nat → Prop) (w : World) (a l : Int) (qr : Option Addr) (cr : Nat) (R : List (Int × Int)) (qt : Option Addr) (nt ct : Nat) (h : SlR (pairRp .i64) F w qr cr R) (hR : Within11 R) (hF : ∀ k, F k → k < w.heap.size) :
    Calls Tryd.prog 28 #[.agg #[.int .i64 a, .int .i64 l, .slice qr R.length cr, .slice qt nt ct]] w fun e w' => e = .returned (.int .i64 (pagesOf R).length) ∧ Ch No w w' := by
  obtain ⟨w1, hw1⟩ : ∃ z, z = w.alloc (.cells #[.int .i64 a, .int .i64 l, .slice qr R.length cr, .slice qt nt ct] 64) := ⟨_, rfl⟩
  have hal : Ch No w w1 := by rw [hw1]; exact (Ch.refl _ _).alloc _
  have hda : w1.heap[w.heap.size]? = some (.cells #[.int .i64 a, .int .i64 l, .slice qr R.length cr, .slice qt nt ct] 64 (0, 0)) := by rw [hw1]; exact World.alloc_heap_new _ _
  have y2 := cellOf hda 2 rfl
  have h1 := h.ch0 hal
  have HW := Lib.hid hw1
  have hmany := hR.many
  have hR1 := hR.1
  clear hw1
  go_enter Tryd.func28, Tryd.ntmps28
  go_wp2_with fail
  rw [← HW.out]
  go_loopw [3, 4] (fun t v wr => ∃ k : Nat, k ≤ R.length ∧ v = .int .i64 k ∧ t = .int .i64 ((pagesOf (R.take k)).length : Nat) ∧ w1 = wr) (fun _ v _ => R.length - (intOf v).toNat)
  case atStart => exact ⟨0, by omega, rfl, rfl, rfl⟩
  case round =>
    obtain ⟨k, hk, rfl, rfl, rfl⟩ := hrel
    by_cases hlt : k < R.length
    · obtain ⟨bq, off, rfl, _, _, d0, d1, _, _⟩ := h1.pair_at k hlt
      have hst := sumR_step hlt
      have hr := hR.2 _ (List.getElem_mem hlt)
      have hle : (pagesOf (R.take k)).length ≤ 2000000 := (show Within11 (R.take k) from ⟨by rw [List.length_take]; omega, fun q hq => hR.2 q (List.mem_of_mem_take hq)⟩).many
      obtain ⟨P0, hP0⟩ : ∃ z, z = (pagesOf (R.take k)).length := ⟨_, rfl⟩
      obtain ⟨P1, hP1⟩ : ∃ z, z = (pagesOf (R.take (k + 1))).length := ⟨_, rfl⟩
      rw [← hP0] at hst hle ⊢
      rw [← hP1] at hst
      obtain ⟨r, hrr⟩ : ∃ z, z = R[k] := ⟨_, rfl⟩
      rw [← hrr] at d0 d1 hr hst
      obtain ⟨r1, r2⟩ := r
      dsimp only at d0 d1 hr hst
      have ew : IntKind.i64.wrap ((P0 : Int) + r2) = (P1 : Int) := by rw [IntWalk.i64_in _ (by omega)]; omega
      have HP1 := Lib.hid hP1
      clear hst hP0 hrr hP1
      go_wp2_with fail
      go_roundw
      case rel => exact ⟨k + 1, by omega, by go_num, by rw [HP1.out], trivial⟩
      case measure => exact meas_lt (by omega)
    · obtain rfl : k = R.length := by omega
      rw [List.take_length]
      go_wp2_with fail
      go_ret
      exact ⟨rfl, hal⟩

set_option maxRecDepth 100000 in
theorem ref11_Has (F : Nat → Prop) (w : World) (a l : Int) (qr : Option Addr) (cr : Nat) (R : List (Int × Int)) (qt : Option Addr) (nt ct : Nat) (at_ : Int) (h : SlR (pairRp .i64) F w qr cr R) (hR : Within11 R) (hat : I64 at_) :
    Calls Tryd.prog 29 #[.agg #[.int .i64 a, .int .i64 l, .slice qr R.length cr, .slice qt nt ct], .int .i64 at_] w fun e w' => e = .returned (.bool (decide (0 ≤ at_ ∧ at_ / 16 ∈ pagesOf R))) ∧ Ch No w w' := by
  obtain ⟨w1, hw1⟩ : ∃ z, z = w.alloc (.cells #[.int .i64 a, .int .i64 l, .slice qr R.length cr, .slice qt nt ct] 64) := ⟨_, rfl⟩
  have hal : Ch No w w1 := by rw [hw1]; exact (Ch.refl _ _).alloc _
  have hda : w1.heap[w.heap.size]? = some (.cells #[.int .i64 a, .int .i64 l, .slice qr R.length cr, .slice qt nt ct] 64 (0, 0)) := by rw [hw1]; exact World.alloc_heap_new _ _
  have h1 := h.ch0 hal
  have HW := Lib.hid hw1
  have hR1 := hR.1
  have hat' := hat.bd
  clear hw1
  go_enter Tryd.func29, Tryd.ntmps29
  go_wp2_with fail
  rw [← HW.out]
  go_loopw [5] (fun v wr => ∃ k : Nat, k ≤ R.length ∧ v = .int .i64 k ∧ (∀ r ∈ R.take k, ¬ (16 * r.1 ≤ at_ ∧ at_ < 16 * (r.1 + r.2))) ∧ Ch No w1 wr) (fun v _ => R.length - (intOf v).toNat)
  case atStart => exact ⟨0, by omega, rfl, by simp, Ch.refl _ _⟩
  case round =>
    obtain ⟨k, hk, rfl, hall, hc⟩ := hrel
    have HA := Lib.hid hall
    clear hall
    have hd := hc.heap hda (fun q => q)
    have y2 := cellOf hd 2 rfl
    by_cases hlt : k < R.length
    · obtain ⟨bq, off, rfl, _, _, d0, d1, _, _⟩ := (h1.ch0 hc).pair_at k hlt
      have hr := hR.2 _ (List.getElem_mem hlt)
      have hmem : R[k] ∈ R := List.getElem_mem hlt
      have htk : R.take (k + 1) = R.take k ++ [R[k]] := List.take_succ_eq_append_getElem hlt
      obtain ⟨r, hrr⟩ : ∃ z, z = R[k] := ⟨_, rfl⟩
      rw [← hrr] at d0 d1 hr hmem htk
      obtain ⟨r1, r2⟩ := r
      dsimp only at d0 d1 hr
      have e1 : IntKind.i64.wrap (16 * r1) = 16 * r1 := IntWalk.i64_in _ (by omega)
      have e2 : IntKind.i64.wrap (r1 + r2) = r1 + r2 := IntWalk.i64_in _ (by omega)
      have e3 : IntKind.i64.wrap (16 * (r1 + r2)) = 16 * (r1 + r2) := IntWalk.i64_in _ (by omega)
      have HT := Lib.hid htk
      clear htk hrr
      by_cases g1 : 16 * r1 ≤ at_
      · have b1 : decide (at_ ≥ 16 * r1) = true := decide_eq_true g1
        by_cases g2 : at_ < 16 * (r1 + r2)
        · have b2 : decide (at_ < 16 * (r1 + r2)) = true := decide_eq_true g2
          have hyes : decide (0 ≤ at_ ∧ at_ / 16 ∈ pagesOf R) = true := decide_eq_true ⟨by omega, mem_pagesOf.2 ⟨_, hmem, by omega, by omega⟩⟩
          have HY := Lib.hid hyes
          clear g1 g2 hyes
          go_wp2_with fail
          go_quiet (fail)
          go_wp2_with fail
          go_ret
          exact ⟨by rw [HY.out]; rfl, (hal.trans hc).drewN _⟩
        · have b2 : decide (at_ < 16 * (r1 + r2)) = false := decide_eq_false g2
          have HG := Lib.hid g2
          clear g1 g2
          go_wp2_with fail
          go_quiet (fail)
          go_wp2_with fail
          go_roundw
          case rel =>
            refine ⟨k + 1, by omega, by go_num, fun q hq => ?_, hc.drewN _⟩
            rw [HT.out] at hq
            rcases List.mem_append.1 hq with hq | hq
            · exact HA.out q hq
            · rw [List.mem_singleton.1 hq]; exact fun z => by have := HG.out; omega
          case measure => exact meas_lt (by omega)
      · have b1 : decide (at_ ≥ 16 * r1) = false := decide_eq_false g1
        have HG := Lib.hid g1
        clear g1
        go_wp2_with fail
        go_quiet (fail)
        go_wp2_with fail
        go_roundw
        case rel =>
          refine ⟨k + 1, by omega, by go_num, fun q hq => ?_, hc.drewN _⟩
          rw [HT.out] at hq
          rcases List.mem_append.1 hq with hq | hq
          · exact HA.out q hq
          · rw [List.mem_singleton.1 hq]; exact fun z => by have := HG.out; omega
        case measure => exact meas_lt (by omega)
    · obtain rfl : k = R.length := by omega
      have hno : decide (0 ≤ at_ ∧ at_ / 16 ∈ pagesOf R) = false := decide_eq_false (by
        rintro ⟨q1, q2⟩
        obtain ⟨r, hr, q3, q4⟩ := mem_pagesOf.1 q2
        exact HA.out r (by rw [List.take_length]; exact hr) ⟨by omega, by omega⟩)
      have HY := Lib.hid hno
      clear hno
      go_wp2_with fail
      go_ret
      exact ⟨by rw [HY.out]; rfl, hal.trans hc⟩

set_option maxRecDepth 100000 in
theorem ref11_Release (F : Nat → Prop) (w : World) (a l : Int) (qr : Option Addr) (cr : Nat) (R : List (Int × Int)) (qt : Option Addr) (nt ct : Nat) (q : Option Addr) (c : Nat) (x : List Bool) (h : SlR (pairRp .i64) F w qr cr R) (hx : SlR boolRp F w q c x) (hxl : x.length ≤ 1024) (hR : R.length ≤ 1000) (hh : Holds x R) (hF : ∀ k, F k → k < w.heap.size) :
    Calls Tryd.prog 25 #[.agg #[.int .i64 a, .int .i64 l, .slice qr R.length cr, .slice qt nt ct], .slice q x.length c] w fun e w' => ∃ q' c', e = .returned (.slice q' x.length c') ∧ SlR boolRp F w' q' c' (givenBack x R) ∧ Ch No w w' := by
  obtain ⟨w1, hw1⟩ : ∃ z, z = w.alloc (.cells #[.int .i64 a, .int .i64 l, .slice qr R.length cr, .slice qt nt ct] 64) := ⟨_, rfl⟩
  have hal : Ch No w w1 := by rw [hw1]; exact (Ch.refl _ _).alloc _
  have hda : w1.heap[w.heap.size]? = some (.cells #[.int .i64 a, .int .i64 l, .slice qr R.length cr, .slice qt nt ct] 64 (0, 0)) := by rw [hw1]; exact World.alloc_heap_new _ _
  have h1 := h.ch0 hal
  have hx1 := hx.ch0 hal
  have hs1 := hal.size
  have HW := Lib.hid hw1
  clear hw1
  go_enter Tryd.func25, Tryd.ntmps25
  go_wp2_with fail
  rw [← HW.out]
  go_loopw [1, 5] (fun t v wr => ∃ (k : Nat) (q' : Option Addr) (c' : Nat) (y : List Bool), k ≤ R.length ∧ v = .int .i64 k ∧ t = .slice q' x.length c' ∧ SlR boolRp F wr q' c' y ∧ y.length = x.length ∧ Holds y (R.drop k) ∧ givenBack y (R.drop k) = givenBack x R ∧ Ch No w1 wr) (fun _ v _ => R.length - (intOf v).toNat)
  case atStart => exact ⟨0, q, c, x, by omega, rfl, rfl, hx1, rfl, hh, rfl, Ch.refl _ _⟩
  case round =>
    obtain ⟨k, q', c', y, hk, rfl, rfl, hy, hyl, hho, hgb, hc⟩ := hrel
    have hd := hc.heap hda (fun q => q)
    have y2 := cellOf hd 2 rfl
    have hsz := hc.size
    by_cases hlt : k < R.length
    · obtain ⟨bq, off, rfl, _, _, d0, d1, i0, i1⟩ := (h1.ch0 hc).pair_at k hlt
      rw [List.drop_eq_getElem_cons hlt] at hgb hho
      obtain ⟨r, hr⟩ : ∃ r, r = R[k] := ⟨_, rfl⟩
      rw [← hr] at d0 d1 i0 i1 hgb hho
      obtain ⟨r1, r2⟩ := r
      dsimp only at d0 d1 i0 i1
      have hst := hho.step
      have hbk := ref03_Back F wr q' c' y r1 r2 hy (by omega) i0 i1 (no_new hF (by omega))
      rw [hyl] at hbk
      have HGB := Lib.hid hgb
      have HST := Lib.hid hst
      have HYL := Lib.hid hyl
      clear hr hgb hho hst hyl
      go_wp2_with fail
      with_reducible refine hbk.mono ?_
      rintro e w6 ⟨q6, c6, y6, E, rfl, hy6, hc6, hto⟩
      obtain ⟨rfl, rfl⟩ := BackTo_ok HST.out.1 hto
      clear hto hbk
      dsimp only
      go_wp2_with fail
      go_roundw
      case rel => exact ⟨k + 1, _, _, _, by omega, by go_num, rfl, hy6, by rw [markB_length]; exact HYL.out, HST.out.2, HGB.out, hc.trans hc6⟩
      case measure => exact meas_lt (by omega)
    · obtain rfl : k = R.length := by omega
      rw [List.drop_length] at hgb
      have hgb2 : y = givenBack x R := hgb
      have HG := Lib.hid hgb2
      clear hgb hgb2 hyl
      go_wp2_with fail
      go_ret
      exact ⟨q', c', rfl, by rw [← HG.out]; exact hy, hal.trans hc⟩

theorem results_cell4 {fn : Func} {c u x y : Tmp} {T : TypeId} (h : fn.results = #[.cell c T, .tmp u, .tmp x, .tmp y]) (tmps : Array Value) (P : Program) (w : World) {a : Addr} {v : Value} (hc : tmps.getD c undef = .pointer (some a)) (hl : (loadVar T a).run P w = .ok v w) :
    (results fn tmps).run P w = .ok (.tuple #[v, tmps.getD u undef, tmps.getD x undef, tmps.getD y undef]) w := by
  have hc' : tmps[c]?.getD undef = .pointer (some a) := by rw [← Array.getD_eq_getD_getElem?]; exact hc
  simp [results, h, hc', asAddr, hl]

theorem two_of_four {w : World} {B : Nat} {v0 v1 v2 v3 u0 u1 : Value} {T : TypeId} (k0 : w.heap[B]? = some (.cells #[v0, v1, v2, v3] T (0, 0))) : ((w.setCell ⟨B, 0, none⟩ u0).setCell ⟨B, 1, none⟩ u1).heap[B]? = some (.cells #[u0, u1, v2, v3] T (0, 0)) :=
  heap_set (heap_set (i := 0) k0 u0) (i := 1) u1

set_option maxRecDepth 100000 in
set_option maxHeartbeats 8000000 in
theorem ref11_Alloc (F : Nat → Prop) (w : World) (pg us : Int) (qr : Option Addr) (cr : Nat) (R : List (Int × Int)) (qt : Option Addr) (ct : Nat) (T : List (Int × Int)) (q : Option Addr) (c : Nat) (x : List Bool) (size : Int)
    (hok : PlanOk pg us) (hx : SlR boolRp F w q c x) (hxl : x.length ≤ 1024) (hr : SlR (pairRp .i64) F w qr cr R) (ht : SlR (pairRp .i64) F w qt ct T) (hRl : R.length ≤ 1000) (hTl : T.length ≤ 1000) (hs : I64 size) (hF : ∀ k, F k → k < w.heap.size) :
    Calls Tryd.prog 26 #[.agg #[.int .i64 (refPg pg), .int .i64 (16 - us), .slice qr R.length cr, .slice qt T.length ct], .slice q x.length c, .int .i64 size] w fun e w' =>
      ∃ (q' : Option Addr) (c' : Nat) (x' : List Bool) (pg' us' : Int) (qr' : Option Addr) (cr' : Nat) (R' : List (Int × Int)) (qt' : Option Addr) (ct' : Nat) (T' : List (Int × Int)) (a E : Int),
        e = .returned (.tuple #[.agg #[.int .i64 (refPg pg'), .int .i64 (16 - us'), .slice qr' R'.length cr', .slice qt' T'.length ct'], .slice q' x'.length c', .int .i64 a, .int .i64 E]) ∧ SlR boolRp F w' q' c' x' ∧ SlR (pairRp .i64) F w' qr' cr' R' ∧ SlR (pairRp .i64) F w' qt' ct' T' ∧ Ch No w w' ∧ AllocX ⟨x, pg, us, R, T⟩ size a E ⟨x', pg', us', R', T'⟩ := by
  have hb := hok.bd
  have hs' := hs.bd
  have hneed : ∀ w, Calls Tryd.prog 45 #[.agg #[.int .i64 (refPg pg), .int .i64 (16 - us)], .int .i64 size] w fun e w' => e = .returned (.tuple #[.int .i64 (needN us size), .int .i64 (needE size)]) ∧ Ch No w w' :=
    fun w => ref10_Need w (refPg pg) us size hb.2.2 (show _ ∧ _ from by unfold refPg; omega) hs
  have hpl : ∀ w page, I64 page → Calls Tryd.prog 47 #[.agg #[.int .i64 (refPg pg), .int .i64 (16 - us)], .int .i64 size, .int .i64 page] w fun e w' => e = .returned (.tuple #[.agg #[.int .i64 (refPg (placeP pg us size page).1), .int .i64 (16 - (placeP pg us size page).2)], .int .i64 (placeA pg us size page), .int .i64 (placeE us size page)]) ∧ Ch No w w' := fun w page hp => ref10_Place w pg us size page hok hs hp
  obtain ⟨w1, hw1⟩ : ∃ z, z = (w.alloc (.cells #[.int .i64 (refPg pg), .int .i64 (16 - us), .slice qr R.length cr, .slice qt T.length ct] 64)).alloc (.cells #[.int .i64 0, .int .i64 0, .slice none 0 0, .slice none 0 0] 64) := ⟨_, rfl⟩
  have hal : Ch No w w1 := by rw [hw1]; exact ((Ch.refl _ _).alloc _).alloc _
  have hda : w1.heap[w.heap.size]? = some (.cells #[.int .i64 (refPg pg), .int .i64 (16 - us), .slice qr R.length cr, .slice qt T.length ct] 64 (0, 0)) := by rw [hw1]; exact heap_al (heap_alloc_new _ _) _
  have hdz : w1.heap[w.heap.size + 1]? = some (.cells #[.int .i64 0, .int .i64 0, .slice none 0 0, .slice none 0 0] 64 (0, 0)) := by
    rw [hw1]
    have := heap_alloc_new (w.alloc (.cells #[.int .i64 (refPg pg), .int .i64 (16 - us), .slice qr R.length cr, .slice qt T.length ct] 64)) (.cells #[.int .i64 0, .int .i64 0, .slice none 0 0, .slice none 0 0] 64)
    simpa using this
  have hz1 : w1.heap.size = w.heap.size + 2 := by rw [hw1]; simp
  have HW := Lib.hid hw1
  clear hw1
  obtain ⟨G, hG⟩ : ∃ G : Nat → Prop, G = fun k => F k ∨ k = w.heap.size ∨ k = w.heap.size + 1 := ⟨_, rfl⟩
  have hFG : ∀ k, F k → G k := fun k q => by rw [hG]; exact .inl q
  have hGn : ∀ k, G k → F k ∨ w.heap.size ≤ k := fun k q => by rw [hG] at q; exact q.imp id (fun z => by omega)
  have hGs : ∀ k, G k → k < w.heap.size + 2 := fun k q => by
    rw [hG] at q
    rcases q with q | q | q
    · have := hF k q; omega
    · omega
    · omega
  have hGA : G w.heap.size := by rw [hG]; exact .inr (.inl rfl)
  have hGZ : G (w.heap.size + 1) := by rw [hG]; exact .inr (.inr rfl)
  have hx1 : SlR boolRp G w1 q c x := (hx.more hGn).ch0 hal
  have hr1 : SlR (pairRp .i64) G w1 qr cr R := (hr.more hGn).ch0 hal
  have ht1 : SlR (pairRp .i64) G w1 qt ct T := (ht.more hGn).ch0 hal
  clear hG
  by_cases hE : needE size = 1
  · have HFIN := Lib.hid (show AllocX ⟨x, pg, us, R, T⟩ size 0 1 ⟨x, pg, us, R, T⟩ from ⟨[], [], .inl ⟨hE, rfl, rfl, rfl, rfl, rfl, rfl, rfl, rfl⟩⟩)
    rw [hE] at hneed
    obtain ⟨M, hM⟩ : ∃ z, z = needN us size := ⟨_, rfl⟩
    rw [← hM] at hneed
    clear hM hE hpl
    go_enter Tryd.func26, Tryd.ntmps26
    go_wp2_with fail
    rw [← HW.out]
    with_reducible refine (hneed w1).mono ?_
    rintro e w2 ⟨rfl, hc2⟩
    have hd9 := (hc2.heap hda (fun q => q))
    have hz9 := (hc2.heap hdz (fun q => q))
    have x09 := cellOf hd9 0 rfl
    have x19 := cellOf hd9 1 rfl
    have x29 := cellOf hd9 2 rfl
    have x39 := cellOf hd9 3 rfl
    have z09 := cellOf hz9 0 rfl
    have z19 := cellOf hz9 1 rfl
    have z29 := cellOf hz9 2 rfl
    have z39 := cellOf hz9 3 rfl
    have f09 := freeOf hz9 0
    have f19 := freeOf hz9 1
    have f29 := freeOf hz9 2
    have f39 := freeOf hz9 3
    dsimp only
    go_wp2_with fail
    have m9 := four_set (u0 := .int .i64 (refPg pg)) (u1 := .int .i64 (16 - us)) (u2 := .slice qr (R.length) cr) (u3 := .slice qt T.length ct) hz9
    have e09 := cellOf m9 0 rfl
    have e19 := cellOf m9 1 rfl
    have e29 := cellOf m9 2 rfl
    have e39 := cellOf m9 3 rfl
    have hcZ : Ch (One (w.heap.size + 1)) w2 ((((w2.setCell ⟨w.heap.size + 1, 0, none⟩ (.int .i64 (refPg pg))).setCell ⟨w.heap.size + 1, 1, none⟩ (.int .i64 (16 - us))).setCell ⟨w.heap.size + 1, 2, none⟩ (.slice qr (R.length) cr)).setCell ⟨w.heap.size + 1, 3, none⟩ (.slice qt T.length ct)) := Ch.setIn (F := One (w.heap.size + 1)) (Ch.setIn (F := One (w.heap.size + 1)) (Ch.setIn (F := One (w.heap.size + 1)) (Ch.setIn (F := One (w.heap.size + 1)) (Ch.refl _ _) (p := ⟨w.heap.size + 1, 0, none⟩) rfl _) (p := ⟨w.heap.size + 1, 1, none⟩) rfl _) (p := ⟨w.heap.size + 1, 2, none⟩) rfl _) (p := ⟨w.heap.size + 1, 3, none⟩) rfl _
    have hZG : ∀ k, One (w.heap.size + 1) k → G k := fun k q => by have : k = w.heap.size + 1 := q; subst this; exact hGZ
    have hZn : ∀ k, One (w.heap.size + 1) k → No k ∨ w.heap.size ≤ k := fun k q => .inr (by have : k = w.heap.size + 1 := q; omega)
    refine bodyPost_ret (results_cell4 (v := .agg #[.int .i64 (refPg pg), .int .i64 (16 - us), .slice qr (R.length) cr, .slice qt T.length ct]) rfl _ _ _ (by rfl) (by go_simp)) rfl ?_
    exact ⟨q, c, x, pg, us, qr, cr, R, qt, ct, T, 0, 1, rfl, (hx1.ch0 hc2).ch hcZ hZG |>.more (fun k q => .inl (hFG k q)), (hr1.ch0 hc2).ch hcZ hZG |>.more (fun k q => .inl (hFG k q)), (ht1.ch0 hc2).ch hcZ hZG |>.more (fun k q => .inl (hFG k q)), (hal.trans hc2).andThen hcZ hZn, HFIN.out⟩
  · have hE0 : needE size = 0 := by unfold needE at hE ⊢; split at hE <;> simp_all
    rw [hE0] at hneed
    by_cases hN : needN us size = 0
    · have HFIN := Lib.hid (show AllocX ⟨x, pg, us, R, T⟩ size (placeA pg us size 0) 0 ⟨x, (placeP pg us size 0).1, (placeP pg us size 0).2, R, T ++ [(placeA pg us size 0, size)]⟩ from ⟨[], [], .inr (.inl ⟨hE0, hN, rfl, rfl, rfl, rfl, rfl, rfl, rfl, rfl⟩)⟩)
      rw [hN] at hneed
      have hab := placeA_bd (size := size) (page := 0) hok (by omega)
      clear hE hE0 hN
      go_enter Tryd.func26, Tryd.ntmps26
      go_wp2_with fail
      rw [← HW.out]
      with_reducible refine (hneed w1).mono ?_
      rintro e wv ⟨rfl, hcv⟩
      have hdv := hcv.heap hda (fun q => q)
      have hzv := hcv.heap hdz (fun q => q)
      have x0 := cellOf hdv 0 rfl
      have x1 := cellOf hdv 1 rfl
      have hxv := hx1.ch0 hcv
      have hrv := hr1.ch0 hcv
      have htv := ht1.ch0 hcv
      have hwv := hal.trans hcv
      have hsv := hcv.size
      dsimp only
      go_wp2_with fail
      have hpq := hpl wv (0) (show _ ∧ _ from by omega)
      obtain ⟨p1, hp1⟩ : ∃ z, z = refPg (placeP pg us size (0)).1 := ⟨_, rfl⟩
      obtain ⟨l1, hl1⟩ : ∃ z, z = 16 - (placeP pg us size (0)).2 := ⟨_, rfl⟩
      obtain ⟨a1, ha1⟩ : ∃ z, z = placeA pg us size (0) := ⟨_, rfl⟩
      obtain ⟨e1, he1⟩ : ∃ z, z = placeE us size (0) := ⟨_, rfl⟩
      rw [← hp1, ← hl1, ← ha1, ← he1] at hpq
      rw [← ha1] at hab HFIN
      have HP1 := Lib.hid hp1; have HL1 := Lib.hid hl1
      clear hp1 hl1 ha1 he1 hpl
      with_reducible refine hpq.mono ?_
      rintro e w3v ⟨rfl, hc3v⟩
      have hd3v := hc3v.heap hdv (fun q => q)
      have hz3v := hc3v.heap hzv (fun q => q)
      have hs3v := hc3v.size
      have halp : Ch No w3v (w3v.alloc (.cells #[.int .i64 p1, .int .i64 l1] 62)) := (Ch.refl _ _).alloc _
      have hdp := halp.heap hd3v (fun q => q)
      have hzp := halp.heap hz3v (fun q => q)
      have k0 := cellOf hdp 0 rfl
      have k1 := cellOf hdp 1 rfl
      have j0 := freeOf hdp 0
      have j1 := freeOf hdp 1
      have n3 := two_of_four (u0 := .int .i64 p1) (u1 := .int .i64 l1) hdp
      have nz : (((w3v.alloc (.cells #[.int .i64 p1, .int .i64 l1] 62)).setCell ⟨w.heap.size, 0, none⟩ (.int .i64 p1)).setCell ⟨w.heap.size, 1, none⟩ (.int .i64 l1)).heap[w.heap.size + 1]? = _ := heap_set_ne (heap_set_ne hzp (by omega) _) (by omega) _
      have hcA : Ch G w3v (((w3v.alloc (.cells #[.int .i64 p1, .int .i64 l1] 62)).setCell ⟨w.heap.size, 0, none⟩ (.int .i64 p1)).setCell ⟨w.heap.size, 1, none⟩ (.int .i64 l1)) := Ch.setIn (F := G) (Ch.setIn (F := G) halp.ofNo (p := ⟨w.heap.size, 0, none⟩) hGA _) (p := ⟨w.heap.size, 1, none⟩) hGA _
      have hszb : (((w3v.alloc (.cells #[.int .i64 p1, .int .i64 l1] 62)).setCell ⟨w.heap.size, 0, none⟩ (.int .i64 p1)).setCell ⟨w.heap.size, 1, none⟩ (.int .i64 l1)).heap.size = w3v.heap.size + 1 := by simp
      have hal9 : Ch No (((w3v.alloc (.cells #[.int .i64 p1, .int .i64 l1] 62)).setCell ⟨w.heap.size, 0, none⟩ (.int .i64 p1)).setCell ⟨w.heap.size, 1, none⟩ (.int .i64 l1)) ((((w3v.alloc (.cells #[.int .i64 p1, .int .i64 l1] 62)).setCell ⟨w.heap.size, 0, none⟩ (.int .i64 p1)).setCell ⟨w.heap.size, 1, none⟩ (.int .i64 l1)).alloc (.cells #[] 37)) := (Ch.refl _ _).alloc _
      have a3 := hal9.cell (cellOf n3 3 rfl) (fun q => q)
      have hTb : SlR (pairRp .i64) G (((w3v.alloc (.cells #[.int .i64 p1, .int .i64 l1] 62)).setCell ⟨w.heap.size, 0, none⟩ (.int .i64 p1)).setCell ⟨w.heap.size, 1, none⟩ (.int .i64 l1)) qt ct T := (htv.ch0 hc3v).ch hcA (fun k q => q)
      have ho : OwnR (pairRp .i64) (w3v.heap.size + 1) 37 No ((((w3v.alloc (.cells #[.int .i64 p1, .int .i64 l1] 62)).setCell ⟨w.heap.size, 0, none⟩ (.int .i64 p1)).setCell ⟨w.heap.size, 1, none⟩ (.int .i64 l1)).alloc (.cells #[] 37)) (.slice (some ⟨w3v.heap.size + 1, 0, none⟩) 0 0) [] := by
        have := OwnR.lit0 (e := pairRp .i64) (T := 37) (F := No) (w := (((w3v.alloc (.cells #[.int .i64 p1, .int .i64 l1] 62)).setCell ⟨w.heap.size, 0, none⟩ (.int .i64 p1)).setCell ⟨w.heap.size, 1, none⟩ (.int .i64 l1))) (base := w3v.heap.size + 1) (by rw [hszb]; exact Nat.le_refl _)
        rw [hszb] at this
        exact this
      have hsT : SlR (pairRp .i64) (fun k => No k ∨ (Value.slice (some ⟨w3v.heap.size + 1, 0, none⟩) 0 0).ownBlock = some k) ((((w3v.alloc (.cells #[.int .i64 p1, .int .i64 l1] 62)).setCell ⟨w.heap.size, 0, none⟩ (.int .i64 p1)).setCell ⟨w.heap.size, 1, none⟩ (.int .i64 l1)).alloc (.cells #[] 37)) qt ct T := (hTb.more (fun k hk => hk.elim (fun q => q.elim) (fun q => .inr (by have := ownBlock_lit k q; rw [hszb]; exact this)))).ch0 hal9
      dsimp only
      go_wp2_with (at_builtin; (first
        | (refine wpL_push rfl _ _ _ rfl (w3v.heap.size + 1) 37 (.agg #[.int .i64 0, .int .i64 0]) 2 16 Tryd.underlying35 infoRun rfl (by decide) (pairRp .i64) rfl No (.slice A9 _ C9) T rfl ho9 [.int .i64 a1, .int .i64 size] _ (a1, size) 1 (by go_simp) ⟨rfl, ⟨show _ ∧ _ from by omega, hs⟩⟩ (fun _ q => q.elim) (by omega) (by omega) (by have := hg9.size; simp at this; omega) ?_; intro v10 w10 ho10 hg10' _; obtain ⟨A10, C10, hv10, hs10⟩ := (ho10.pairs_any G).sl (fun k q => by have := hGs k q; omega); rw [List.length_append, List.length_singleton] at hv10; subst hv10; have hg10 : Ch No (((w3v.alloc (.cells #[.int .i64 p1, .int .i64 l1] 62)).setCell ⟨w.heap.size, 0, none⟩ (.int .i64 p1)).setCell ⟨w.heap.size, 1, none⟩ (.int .i64 l1)) w10 := hg10' _ _ (by simp) hg9; have hd10 := hg10.heap n3 (fun q => q); have hz10 := hg10.heap nz (fun q => q); have g310 := freeOf hd10 3; have c310 := cellOf hd10 3 rfl; have st10 := heap_set (i := 3) hd10 (.slice A10 (T.length + 1) C10); have q010 := cellOf st10 0 rfl; have q110 := cellOf st10 1 rfl; have q210 := cellOf st10 2 rfl; have q310 := cellOf st10 3 rfl; have hz9 := heap_set_ne hz10 (by omega : w.heap.size + 1 ≠ w.heap.size) (i := 3) (.slice A10 (T.length + 1) C10); have z09 := cellOf hz9 0 rfl; have z19 := cellOf hz9 1 rfl; have z29 := cellOf hz9 2 rfl; have z39 := cellOf hz9 3 rfl; have f09 := freeOf hz9 0; have f19 := freeOf hz9 1; have f29 := freeOf hz9 2; have f39 := freeOf hz9 3)
        | (refine wpL_appendR rfl _ _ _ rfl (w3v.heap.size + 1) 37 (.agg #[.int .i64 0, .int .i64 0]) 2 16 Tryd.underlying35 infoRun rfl (by decide) (pairRp .i64) rfl No (.slice (some ⟨w3v.heap.size + 1, 0, none⟩) 0 0) [] rfl ho _ _ T (by go_simp) hsT (by simp; omega) (by simp; omega) (by simp) ?_; intro v9 w9 ho9 hg9' _; rw [List.nil_append] at ho9; have hg9 : Ch No (((w3v.alloc (.cells #[.int .i64 p1, .int .i64 l1] 62)).setCell ⟨w.heap.size, 0, none⟩ (.int .i64 p1)).setCell ⟨w.heap.size, 1, none⟩ (.int .i64 l1)) w9 := hg9' _ _ (by simp) hal9; obtain ⟨A9, C9, hv9, _⟩ := ho9.sl (fun k q => q.elim); subst hv9)))
      have m9 := four_set (u0 := .int .i64 p1) (u1 := .int .i64 l1) (u2 := .slice qr (R.length) cr) (u3 := .slice A10 (T.length + 1) C10) hz9
      have e09 := cellOf m9 0 rfl
      have e19 := cellOf m9 1 rfl
      have e29 := cellOf m9 2 rfl
      have e39 := cellOf m9 3 rfl
      have hcZ : Ch (One (w.heap.size + 1)) (w10.setCell ⟨w.heap.size, 3, none⟩ (.slice A10 (T.length + 1) C10)) (((((w10.setCell ⟨w.heap.size, 3, none⟩ (.slice A10 (T.length + 1) C10)).setCell ⟨w.heap.size + 1, 0, none⟩ (.int .i64 p1)).setCell ⟨w.heap.size + 1, 1, none⟩ (.int .i64 l1)).setCell ⟨w.heap.size + 1, 2, none⟩ (.slice qr (R.length) cr)).setCell ⟨w.heap.size + 1, 3, none⟩ (.slice A10 (T.length + 1) C10)) := Ch.setIn (F := One (w.heap.size + 1)) (Ch.setIn (F := One (w.heap.size + 1)) (Ch.setIn (F := One (w.heap.size + 1)) (Ch.setIn (F := One (w.heap.size + 1)) (Ch.refl _ _) (p := ⟨w.heap.size + 1, 0, none⟩) rfl _) (p := ⟨w.heap.size + 1, 1, none⟩) rfl _) (p := ⟨w.heap.size + 1, 2, none⟩) rfl _) (p := ⟨w.heap.size + 1, 3, none⟩) rfl _
      have hZG : ∀ k, One (w.heap.size + 1) k → G k := fun k q => by have : k = w.heap.size + 1 := q; subst this; exact hGZ
      have hZn : ∀ k, One (w.heap.size + 1) k → No k ∨ w.heap.size ≤ k := fun k q => .inr (by have : k = w.heap.size + 1 := q; omega)
      refine bodyPost_ret (results_cell4 (v := .agg #[.int .i64 p1, .int .i64 l1, .slice qr (R.length) cr, .slice A10 (T.length + 1) C10]) rfl _ _ _ (by rfl) (by go_simp)) rfl ?_
      have hc3 : Ch G w10 (w10.setCell ⟨w.heap.size, 3, none⟩ (.slice A10 (T.length + 1) C10)) := Ch.setIn (F := G) (Ch.refl _ _) (p := ⟨w.heap.size, 3, none⟩) hGA _
      have hcf := hc3.trans (hcZ.mono hZG)
      have hcv10 : Ch G wv w10 := ((hc3v.ofNo).trans hcA).trans hg10.ofNo
      have hwf := hcv10.trans hcf
      refine ⟨q, c, x, (placeP pg us size (0)).1, (placeP pg us size (0)).2, qr, cr, R, A10, C10, T ++ [(a1, size)], a1, 0, ?_, (hxv.ch hwf (fun k q => q)).more (fun k q => .inl (hFG k q)), (hrv.ch hwf (fun k q => q)).more (fun k q => .inl (hFG k q)), (hs10.ch hcf (fun k q => q)).more (fun k q => .inl (hFG k q)), ?_, HFIN.out⟩
      · rw [HP1.out, HL1.out]; first | (simp; done) | simp [hxl']
      · have t1 : Ch No w w3v := hwv.trans hc3v
        have t2 := (((t1.alloc (.cells #[.int .i64 p1, .int .i64 l1] 62)).setNew (p := ⟨w.heap.size, 0, none⟩) (Nat.le_refl _) (.int .i64 p1)).setNew (p := ⟨w.heap.size, 1, none⟩) (Nat.le_refl _) (.int .i64 l1)).trans hg10
        exact (t2.setNew (p := ⟨w.heap.size, 3, none⟩) (Nat.le_refl _) (.slice A10 (T.length + 1) C10)).andThen hcZ hZn
    · have hM2 : 0 < needN us size ∧ needN us size ≤ 1024 := by
        have hb := hok.bd
        have hq : ¬ (size < 1 ∨ 16384 < size) := fun q => hN (by unfold needN; rw [if_pos q])
        have hq2 : ¬ (size ≤ 16 - us) := fun q => hN (by unfold needN; rw [if_neg hq, if_pos q])
        have := needN_pos (us := us) (size := size) hq hq2 hb.2.2.1
        exact ⟨this.1, by omega⟩
      have HN0 := Lib.hid (show needN us size = needN us size from rfl)
      obtain ⟨M, hM⟩ : ∃ z, z = needN us size := ⟨_, rfl⟩
      rw [← hM] at hneed hM2
      have hgr : ∀ w2, Ch No w1 w2 → _ := fun w2 hc => ref03_Grant G w2 q c x M (hx1.ch0 hc) hxl (show _ ∧ _ from by omega) (fun k q => by have := hGs k q; have := hc.size; omega)
      have b0 : decide (M > 0) = true := decide_eq_true hM2.1
      have HM := Lib.hid hM
      have HE0 := Lib.hid hE0
      clear hE hE0 hN hM
      go_enter Tryd.func26, Tryd.ntmps26
      go_wp2_with fail
      rw [← HW.out]
      with_reducible refine (hneed w1).mono ?_
      rintro e w2 ⟨rfl, hc2⟩
      have hgr2 := hgr w2 hc2
      clear hgr
      dsimp only
      go_wp2_with fail
      with_reducible refine hgr2.mono ?_
      rintro e w3 ⟨q', c', x', a, E, rfl, hx3, hc3, hto⟩
      have hxl' := hto.len
      rcases hto with ⟨h1, _⟩ | ⟨_, hfn, rfl, rfl, rfl⟩ | ⟨_, j, hfn, rfl, rfl, hxe⟩
      · omega
      · have HFIN := Lib.hid (show AllocX ⟨x', pg, us, R, T⟩ size 0 3 ⟨x', pg, us, R, T⟩ from ⟨[], [], .inr (.inr (.inl ⟨HE0.out, by rw [← HM.out]; exact hM2.1, by rw [← HM.out]; exact hfn, rfl, rfl, rfl, rfl, rfl, rfl, rfl, rfl⟩))⟩)
        have hc23 := hc2.trans hc3
        clear hfn hxl' hgr2
        have hd9 := (hc23.heap hda (fun q => q))
        have hz9 := (hc23.heap hdz (fun q => q))
        have x09 := cellOf hd9 0 rfl
        have x19 := cellOf hd9 1 rfl
        have x29 := cellOf hd9 2 rfl
        have x39 := cellOf hd9 3 rfl
        have z09 := cellOf hz9 0 rfl
        have z19 := cellOf hz9 1 rfl
        have z29 := cellOf hz9 2 rfl
        have z39 := cellOf hz9 3 rfl
        have f09 := freeOf hz9 0
        have f19 := freeOf hz9 1
        have f29 := freeOf hz9 2
        have f39 := freeOf hz9 3
        dsimp only
        go_wp2_with fail
        have m9 := four_set (u0 := .int .i64 (refPg pg)) (u1 := .int .i64 (16 - us)) (u2 := .slice qr (R.length) cr) (u3 := .slice qt T.length ct) hz9
        have e09 := cellOf m9 0 rfl
        have e19 := cellOf m9 1 rfl
        have e29 := cellOf m9 2 rfl
        have e39 := cellOf m9 3 rfl
        have hcZ : Ch (One (w.heap.size + 1)) w3 ((((w3.setCell ⟨w.heap.size + 1, 0, none⟩ (.int .i64 (refPg pg))).setCell ⟨w.heap.size + 1, 1, none⟩ (.int .i64 (16 - us))).setCell ⟨w.heap.size + 1, 2, none⟩ (.slice qr (R.length) cr)).setCell ⟨w.heap.size + 1, 3, none⟩ (.slice qt T.length ct)) := Ch.setIn (F := One (w.heap.size + 1)) (Ch.setIn (F := One (w.heap.size + 1)) (Ch.setIn (F := One (w.heap.size + 1)) (Ch.setIn (F := One (w.heap.size + 1)) (Ch.refl _ _) (p := ⟨w.heap.size + 1, 0, none⟩) rfl _) (p := ⟨w.heap.size + 1, 1, none⟩) rfl _) (p := ⟨w.heap.size + 1, 2, none⟩) rfl _) (p := ⟨w.heap.size + 1, 3, none⟩) rfl _
        have hZG : ∀ k, One (w.heap.size + 1) k → G k := fun k q => by have : k = w.heap.size + 1 := q; subst this; exact hGZ
        have hZn : ∀ k, One (w.heap.size + 1) k → No k ∨ w.heap.size ≤ k := fun k q => .inr (by have : k = w.heap.size + 1 := q; omega)
        refine bodyPost_ret (results_cell4 (v := .agg #[.int .i64 (refPg pg), .int .i64 (16 - us), .slice qr (R.length) cr, .slice qt T.length ct]) rfl _ _ _ (by rfl) (by go_simp)) rfl ?_
        exact ⟨q', c', x', pg, us, qr, cr, R, qt, ct, T, 0, 3, rfl, hx3.ch hcZ hZG |>.more (fun k q => .inl (hFG k q)), (hr1.ch0 hc23).ch hcZ hZG |>.more (fun k q => .inl (hFG k q)), (ht1.ch0 hc23).ch hcZ hZG |>.more (fun k q => .inl (hFG k q)), (hal.trans hc23).andThen hcZ hZn, HFIN.out⟩
      · have hjb : j + M.toNat ≤ x.length := hfn.1.1
        have HFIN := Lib.hid (show AllocX ⟨x, pg, us, R, T⟩ size (placeA pg us size j) 0 ⟨x', (placeP pg us size j).1, (placeP pg us size j).2, R ++ [((j : Int), M)], T ++ [(placeA pg us size j, size)]⟩ from
          ⟨[], _, .inr (.inr (.inr ⟨HE0.out, by rw [← HM.out]; exact hM2.1, j, by rw [← HM.out]; exact hfn, rfl, rfl, by rw [← HM.out]; exact hxe, rfl, rfl, rfl, by rw [← HM.out], rfl⟩))⟩)
        have hab := placeA_bd (size := size) (page := (j : Int)) hok (by omega)
        have hc23 := hc2.trans hc3
        have hd3 := hc23.heap hda (fun q => q)
        have hz3 := hc23.heap hdz (fun q => q)
        have y2 := cellOf hd3 2 rfl
        have g2 := freeOf hd3 2
        have hs3 := hc23.size
        have hR3 : SlR (pairRp .i64) G w3 qr cr R := hr1.ch0 hc23
        have hal3 : Ch No w3 (w3.alloc (.cells #[] 37)) := (Ch.refl _ _).alloc _
        have y2a := hal3.cell y2 (fun q => q)
        have ho : OwnR (pairRp .i64) w3.heap.size 37 No (w3.alloc (.cells #[] 37)) (.slice (some ⟨w3.heap.size, 0, none⟩) 0 0) [] := OwnR.lit0 (Nat.le_refl _)
        have hsR : SlR (pairRp .i64) (fun k => No k ∨ (Value.slice (some ⟨w3.heap.size, 0, none⟩) 0 0).ownBlock = some k) (w3.alloc (.cells #[] 37)) qr cr R := (hR3.more (fun k hk => hk.elim (fun q => q.elim) (fun q => .inr (ownBlock_lit k q)))).ch0 hal3
        clear hxe hfn hgr2 hneed
        dsimp only
        go_wp2_with (at_builtin; (first
          | (refine wpL_push rfl _ _ _ rfl w3.heap.size 37 (.agg #[.int .i64 0, .int .i64 0]) 2 16 Tryd.underlying35 infoRun rfl (by decide) (pairRp .i64) rfl No (.slice A4 _ C4) R rfl ho4 [.int .i64 j, .int .i64 M] _ ((j : Int), M) 1 (by go_simp) ⟨rfl, ⟨show _ ∧ _ from by omega, show _ ∧ _ from by omega⟩⟩ (fun _ q => q.elim) (by omega) (by omega) hg4.size ?_; intro v5 w5 ho5 hg5 _; obtain ⟨A5, C5, hv5, hs5⟩ := (ho5.pairs_any G).sl (fun k q => by have := hGs k q; omega); rw [List.length_append, List.length_singleton] at hv5; subst hv5; have hc5 := hg5 _ _ (Nat.le_refl _) hg4; have hd5 := hc5.heap hd3 (fun q => q); have y25 := cellOf hd5 2 rfl; have g25 := freeOf hd5 2; have st5 := heap_set (i := 2) hd5 (.slice A5 (R.length + 1) C5); have x0 := cellOf st5 0 rfl; have x1 := cellOf st5 1 rfl)
          | (refine wpL_appendR rfl _ _ _ rfl w3.heap.size 37 (.agg #[.int .i64 0, .int .i64 0]) 2 16 Tryd.underlying35 infoRun rfl (by decide) (pairRp .i64) rfl No (.slice (some ⟨w3.heap.size, 0, none⟩) 0 0) [] rfl ho _ _ R (by go_simp) hsR (by simp; omega) (by simp; omega) (by simp) ?_; intro v4 w4 ho4 hg4' _; rw [List.nil_append] at ho4; have hg4 : Ch No w3 w4 := hg4' _ _ (Nat.le_refl _) hal3; obtain ⟨A4, C4, hv4, _⟩ := ho4.sl (fun k q => q.elim); subst hv4; have y24 := hg4.cell y2 (fun q => q))))
        obtain ⟨wv, hwv0⟩ : ∃ z, z = w5.setCell ⟨w.heap.size, 2, none⟩ (.slice A5 (R.length + 1) C5) := ⟨_, rfl⟩
        rw [← hwv0]
        rw [← hwv0] at st5
        have hcS : Ch G w5 wv := by rw [hwv0]; exact Ch.setIn (F := G) (Ch.refl _ _) (p := ⟨w.heap.size, 2, none⟩) hGA _
        have hdv : wv.heap[w.heap.size]? = some (.cells #[.int .i64 (refPg pg), .int .i64 (16 - us), .slice A5 (R.length + 1) C5, .slice qt T.length ct] 64 (0, 0)) := st5
        have hzv : wv.heap[w.heap.size + 1]? = some (.cells #[.int .i64 0, .int .i64 0, .slice none 0 0, .slice none 0 0] 64 (0, 0)) := by rw [hwv0]; exact heap_set_ne (hc5.heap hz3 (fun q => q)) (by omega) _
        have hrv : SlR (pairRp .i64) G wv A5 C5 (R ++ [((j : Int), M)]) := hs5.ch hcS (fun k q => q)
        have hxv : SlR boolRp G wv q' c' x' := (hx3.ch0 hc5).ch hcS (fun k q => q)
        have htv : SlR (pairRp .i64) G wv qt ct T := ((ht1.ch0 hc23).ch0 hc5).ch hcS (fun k q => q)
        have hwv : Ch No w wv := ((hal.trans hc23).trans hc5).andThen (Ch.setIn (F := One w.heap.size) (Ch.refl _ w5) (p := ⟨w.heap.size, 2, none⟩) rfl (.slice A5 (R.length + 1) C5)) (fun k q => .inr (by have : k = w.heap.size := q; omega)) |> fun z => by rw [hwv0]; exact z
        have hsv : w1.heap.size ≤ wv.heap.size := Nat.le_trans hs3 (Nat.le_trans hc5.size hcS.size)
        rw [← hxl']
        clear hwv0
        have hpq := hpl wv ((j : Int)) (show _ ∧ _ from by omega)
        obtain ⟨p1, hp1⟩ : ∃ z, z = refPg (placeP pg us size ((j : Int))).1 := ⟨_, rfl⟩
        obtain ⟨l1, hl1⟩ : ∃ z, z = 16 - (placeP pg us size ((j : Int))).2 := ⟨_, rfl⟩
        obtain ⟨a1, ha1⟩ : ∃ z, z = placeA pg us size ((j : Int)) := ⟨_, rfl⟩
        obtain ⟨e1, he1⟩ : ∃ z, z = placeE us size ((j : Int)) := ⟨_, rfl⟩
        rw [← hp1, ← hl1, ← ha1, ← he1] at hpq
        rw [← ha1] at hab HFIN
        have HP1 := Lib.hid hp1; have HL1 := Lib.hid hl1
        clear hp1 hl1 ha1 he1 hpl
        with_reducible refine hpq.mono ?_
        rintro e w3v ⟨rfl, hc3v⟩
        have hd3v := hc3v.heap hdv (fun q => q)
        have hz3v := hc3v.heap hzv (fun q => q)
        have hs3v := hc3v.size
        have halp : Ch No w3v (w3v.alloc (.cells #[.int .i64 p1, .int .i64 l1] 62)) := (Ch.refl _ _).alloc _
        have hdp := halp.heap hd3v (fun q => q)
        have hzp := halp.heap hz3v (fun q => q)
        have k0 := cellOf hdp 0 rfl
        have k1 := cellOf hdp 1 rfl
        have j0 := freeOf hdp 0
        have j1 := freeOf hdp 1
        have n3 := two_of_four (u0 := .int .i64 p1) (u1 := .int .i64 l1) hdp
        have nz : (((w3v.alloc (.cells #[.int .i64 p1, .int .i64 l1] 62)).setCell ⟨w.heap.size, 0, none⟩ (.int .i64 p1)).setCell ⟨w.heap.size, 1, none⟩ (.int .i64 l1)).heap[w.heap.size + 1]? = _ := heap_set_ne (heap_set_ne hzp (by omega) _) (by omega) _
        have hcA : Ch G w3v (((w3v.alloc (.cells #[.int .i64 p1, .int .i64 l1] 62)).setCell ⟨w.heap.size, 0, none⟩ (.int .i64 p1)).setCell ⟨w.heap.size, 1, none⟩ (.int .i64 l1)) := Ch.setIn (F := G) (Ch.setIn (F := G) halp.ofNo (p := ⟨w.heap.size, 0, none⟩) hGA _) (p := ⟨w.heap.size, 1, none⟩) hGA _
        have hszb : (((w3v.alloc (.cells #[.int .i64 p1, .int .i64 l1] 62)).setCell ⟨w.heap.size, 0, none⟩ (.int .i64 p1)).setCell ⟨w.heap.size, 1, none⟩ (.int .i64 l1)).heap.size = w3v.heap.size + 1 := by simp
        have hal9 : Ch No (((w3v.alloc (.cells #[.int .i64 p1, .int .i64 l1] 62)).setCell ⟨w.heap.size, 0, none⟩ (.int .i64 p1)).setCell ⟨w.heap.size, 1, none⟩ (.int .i64 l1)) ((((w3v.alloc (.cells #[.int .i64 p1, .int .i64 l1] 62)).setCell ⟨w.heap.size, 0, none⟩ (.int .i64 p1)).setCell ⟨w.heap.size, 1, none⟩ (.int .i64 l1)).alloc (.cells #[] 37)) := (Ch.refl _ _).alloc _
        have a3 := hal9.cell (cellOf n3 3 rfl) (fun q => q)
        have hTb : SlR (pairRp .i64) G (((w3v.alloc (.cells #[.int .i64 p1, .int .i64 l1] 62)).setCell ⟨w.heap.size, 0, none⟩ (.int .i64 p1)).setCell ⟨w.heap.size, 1, none⟩ (.int .i64 l1)) qt ct T := (htv.ch0 hc3v).ch hcA (fun k q => q)
        have ho : OwnR (pairRp .i64) (w3v.heap.size + 1) 37 No ((((w3v.alloc (.cells #[.int .i64 p1, .int .i64 l1] 62)).setCell ⟨w.heap.size, 0, none⟩ (.int .i64 p1)).setCell ⟨w.heap.size, 1, none⟩ (.int .i64 l1)).alloc (.cells #[] 37)) (.slice (some ⟨w3v.heap.size + 1, 0, none⟩) 0 0) [] := by
          have := OwnR.lit0 (e := pairRp .i64) (T := 37) (F := No) (w := (((w3v.alloc (.cells #[.int .i64 p1, .int .i64 l1] 62)).setCell ⟨w.heap.size, 0, none⟩ (.int .i64 p1)).setCell ⟨w.heap.size, 1, none⟩ (.int .i64 l1))) (base := w3v.heap.size + 1) (by rw [hszb]; exact Nat.le_refl _)
          rw [hszb] at this
          exact this
        have hsT : SlR (pairRp .i64) (fun k => No k ∨ (Value.slice (some ⟨w3v.heap.size + 1, 0, none⟩) 0 0).ownBlock = some k) ((((w3v.alloc (.cells #[.int .i64 p1, .int .i64 l1] 62)).setCell ⟨w.heap.size, 0, none⟩ (.int .i64 p1)).setCell ⟨w.heap.size, 1, none⟩ (.int .i64 l1)).alloc (.cells #[] 37)) qt ct T := (hTb.more (fun k hk => hk.elim (fun q => q.elim) (fun q => .inr (by have := ownBlock_lit k q; rw [hszb]; exact this)))).ch0 hal9
        dsimp only
        go_wp2_with (at_builtin; (first
          | (refine wpL_push rfl _ _ _ rfl (w3v.heap.size + 1) 37 (.agg #[.int .i64 0, .int .i64 0]) 2 16 Tryd.underlying35 infoRun rfl (by decide) (pairRp .i64) rfl No (.slice A9 _ C9) T rfl ho9 [.int .i64 a1, .int .i64 size] _ (a1, size) 1 (by go_simp) ⟨rfl, ⟨show _ ∧ _ from by omega, hs⟩⟩ (fun _ q => q.elim) (by omega) (by omega) (by have := hg9.size; simp at this; omega) ?_; intro v10 w10 ho10 hg10' _; obtain ⟨A10, C10, hv10, hs10⟩ := (ho10.pairs_any G).sl (fun k q => by have := hGs k q; omega); rw [List.length_append, List.length_singleton] at hv10; subst hv10; have hg10 : Ch No (((w3v.alloc (.cells #[.int .i64 p1, .int .i64 l1] 62)).setCell ⟨w.heap.size, 0, none⟩ (.int .i64 p1)).setCell ⟨w.heap.size, 1, none⟩ (.int .i64 l1)) w10 := hg10' _ _ (by simp) hg9; have hd10 := hg10.heap n3 (fun q => q); have hz10 := hg10.heap nz (fun q => q); have g310 := freeOf hd10 3; have c310 := cellOf hd10 3 rfl; have st10 := heap_set (i := 3) hd10 (.slice A10 (T.length + 1) C10); have q010 := cellOf st10 0 rfl; have q110 := cellOf st10 1 rfl; have q210 := cellOf st10 2 rfl; have q310 := cellOf st10 3 rfl; have hz9 := heap_set_ne hz10 (by omega : w.heap.size + 1 ≠ w.heap.size) (i := 3) (.slice A10 (T.length + 1) C10); have z09 := cellOf hz9 0 rfl; have z19 := cellOf hz9 1 rfl; have z29 := cellOf hz9 2 rfl; have z39 := cellOf hz9 3 rfl; have f09 := freeOf hz9 0; have f19 := freeOf hz9 1; have f29 := freeOf hz9 2; have f39 := freeOf hz9 3)
          | (refine wpL_appendR rfl _ _ _ rfl (w3v.heap.size + 1) 37 (.agg #[.int .i64 0, .int .i64 0]) 2 16 Tryd.underlying35 infoRun rfl (by decide) (pairRp .i64) rfl No (.slice (some ⟨w3v.heap.size + 1, 0, none⟩) 0 0) [] rfl ho _ _ T (by go_simp) hsT (by simp; omega) (by simp; omega) (by simp) ?_; intro v9 w9 ho9 hg9' _; rw [List.nil_append] at ho9; have hg9 : Ch No (((w3v.alloc (.cells #[.int .i64 p1, .int .i64 l1] 62)).setCell ⟨w.heap.size, 0, none⟩ (.int .i64 p1)).setCell ⟨w.heap.size, 1, none⟩ (.int .i64 l1)) w9 := hg9' _ _ (by simp) hal9; obtain ⟨A9, C9, hv9, _⟩ := ho9.sl (fun k q => q.elim); subst hv9)))
        have m9 := four_set (u0 := .int .i64 p1) (u1 := .int .i64 l1) (u2 := .slice A5 (R.length + 1) C5) (u3 := .slice A10 (T.length + 1) C10) hz9
        have e09 := cellOf m9 0 rfl
        have e19 := cellOf m9 1 rfl
        have e29 := cellOf m9 2 rfl
        have e39 := cellOf m9 3 rfl
        have hcZ : Ch (One (w.heap.size + 1)) (w10.setCell ⟨w.heap.size, 3, none⟩ (.slice A10 (T.length + 1) C10)) (((((w10.setCell ⟨w.heap.size, 3, none⟩ (.slice A10 (T.length + 1) C10)).setCell ⟨w.heap.size + 1, 0, none⟩ (.int .i64 p1)).setCell ⟨w.heap.size + 1, 1, none⟩ (.int .i64 l1)).setCell ⟨w.heap.size + 1, 2, none⟩ (.slice A5 (R.length + 1) C5)).setCell ⟨w.heap.size + 1, 3, none⟩ (.slice A10 (T.length + 1) C10)) := Ch.setIn (F := One (w.heap.size + 1)) (Ch.setIn (F := One (w.heap.size + 1)) (Ch.setIn (F := One (w.heap.size + 1)) (Ch.setIn (F := One (w.heap.size + 1)) (Ch.refl _ _) (p := ⟨w.heap.size + 1, 0, none⟩) rfl _) (p := ⟨w.heap.size + 1, 1, none⟩) rfl _) (p := ⟨w.heap.size + 1, 2, none⟩) rfl _) (p := ⟨w.heap.size + 1, 3, none⟩) rfl _
        have hZG : ∀ k, One (w.heap.size + 1) k → G k := fun k q => by have : k = w.heap.size + 1 := q; subst this; exact hGZ
        have hZn : ∀ k, One (w.heap.size + 1) k → No k ∨ w.heap.size ≤ k := fun k q => .inr (by have : k = w.heap.size + 1 := q; omega)
        refine bodyPost_ret (results_cell4 (v := .agg #[.int .i64 p1, .int .i64 l1, .slice A5 (R.length + 1) C5, .slice A10 (T.length + 1) C10]) rfl _ _ _ (by rfl) (by go_simp)) rfl ?_
        have hc3 : Ch G w10 (w10.setCell ⟨w.heap.size, 3, none⟩ (.slice A10 (T.length + 1) C10)) := Ch.setIn (F := G) (Ch.refl _ _) (p := ⟨w.heap.size, 3, none⟩) hGA _
        have hcf := hc3.trans (hcZ.mono hZG)
        have hcv10 : Ch G wv w10 := ((hc3v.ofNo).trans hcA).trans hg10.ofNo
        have hwf := hcv10.trans hcf
        refine ⟨q', c', x', (placeP pg us size ((j : Int))).1, (placeP pg us size ((j : Int))).2, A5, C5, R ++ [((j : Int), M)], A10, C10, T ++ [(a1, size)], a1, 0, ?_, (hxv.ch hwf (fun k q => q)).more (fun k q => .inl (hFG k q)), (hrv.ch hwf (fun k q => q)).more (fun k q => .inl (hFG k q)), (hs10.ch hcf (fun k q => q)).more (fun k q => .inl (hFG k q)), ?_, HFIN.out⟩
        · rw [HP1.out, HL1.out]; first | (simp; done) | simp [hxl']
        · have t1 : Ch No w w3v := hwv.trans hc3v
          have t2 := (((t1.alloc (.cells #[.int .i64 p1, .int .i64 l1] 62)).setNew (p := ⟨w.heap.size, 0, none⟩) (Nat.le_refl _) (.int .i64 p1)).setNew (p := ⟨w.heap.size, 1, none⟩) (Nat.le_refl _) (.int .i64 l1)).trans hg10
          exact (t2.setNew (p := ⟨w.heap.size, 3, none⟩) (Nat.le_refl _) (.slice A10 (T.length + 1) C10)).andThen hcZ hZn
end Go.Proofs.YtpldogmamifdpaaDoor

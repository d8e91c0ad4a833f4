/- The reference of plan. -/
import Derived.Test.YtpldogmamifdpaaDoorPlanPlace
set_option linter.unusedVariables false
set_option linter.unusedSimpArgs false
namespace Go.Proofs.YtpldogmamifdpaaDoor
open Go Go.RowKit

set_option maxHeartbeats 2000000 in
theorem ref10_Need (w : World) (rp us size : Int) (hu : 0 ≤ us ∧ us ≤ 16) (hr : I64 rp) (hs : I64 size) :
    Calls Tryd.prog 45 #[.agg #[.int .i64 rp, .int .i64 (16 - us)], .int .i64 size] w fun e w' => e = .returned (.tuple #[.int .i64 (needN us size), .int .i64 (needE size)]) ∧ Ch No w w' := by
  have hs' := hs.bd
  unfold needN needE
  by_cases h1 : size < 1 ∨ 16384 < size
  · rw [if_pos h1, if_pos h1]
    by_cases h0 : size < 1
    · have b1 : decide (size < 1) = true := decide_eq_true h0
      go_enter Tryd.func45, Tryd.ntmps45
      go_wp2_with fail
      go_ret2
      exact ⟨rfl, (Ch.refl _ _).alloc _⟩
    · have b1 : decide (size < 1) = false := decide_eq_false h0
      have b2 : decide (size > 16384) = true := decide_eq_true (by omega)
      go_enter Tryd.func45, Tryd.ntmps45
      go_wp2_with fail
      go_ret2
      exact ⟨rfl, (Ch.refl _ _).alloc _⟩
  · rw [if_neg h1, if_neg h1]
    have b1 : decide (size < 1) = false := decide_eq_false (by omega)
    have b2 : decide (size > 16384) = false := decide_eq_false (by omega)
    by_cases h3 : size ≤ 16 - us
    · rw [if_pos h3]
      have b4 : decide (size ≤ 16 - us) = true := decide_eq_true h3
      have h1' := Lib.hid h1
      clear h1
      go_enter Tryd.func45, Tryd.ntmps45
      go_wp2_with fail
      go_ret2
      exact ⟨rfl, (Ch.refl _ _).alloc _⟩
    · rw [if_neg h3]
      have b4 : decide (size ≤ 16 - us) = false := decide_eq_false h3
      have ht : size.tdiv 16 = size / 16 := Int.tdiv_eq_ediv_of_nonneg (by omega)
      have hm : size.tmod 16 = size % 16 := Int.tmod_eq_emod_of_nonneg (by omega)
      have W1 : IntKind.i64.wrap (size / 16) = size / 16 := IntWalk.i64_in _ (by omega)
      have W2 : IntKind.i64.wrap (size / 16 + 1) = size / 16 + 1 := IntWalk.i64_in _ (by omega)
      have hsz : 1 ≤ size ∧ size ≤ 16384 := by omega
      have h1' := Lib.hid h1
      clear h1
      by_cases h5 : 0 < size % 16
      · have b5 : decide (size % 16 > 0) = true := decide_eq_true h5
        have hq : (size + 15) / 16 = size / 16 + 1 := by omega
        rw [hq]
        clear hq
        go_enter Tryd.func45, Tryd.ntmps45
        go_wp2_with fail
        go_ret2
        exact ⟨rfl, (Ch.refl _ _).alloc _⟩
      · have b5 : decide (size % 16 > 0) = false := decide_eq_false h5
        have hq : (size + 15) / 16 = size / 16 := by omega
        rw [hq]
        clear hq
        go_enter Tryd.func45, Tryd.ntmps45
        go_wp2_with fail
        go_ret2
        exact ⟨rfl, (Ch.refl _ _).alloc _⟩

theorem results_cell3 {fn : Func} {c u x : Tmp} {T : TypeId} (h : fn.results = #[.cell c T, .tmp u, .tmp x]) (tmps : Array Value) (P : Program) (w : World) {a : Addr} {v : Value} (hc : tmps.getD c undef = .pointer (some a)) (hl : (loadVar T a).run P w = .ok v w) :
    (results fn tmps).run P w = .ok (.tuple #[v, tmps.getD u undef, tmps.getD x undef]) w := by
  have hc' : tmps[c]?.getD undef = .pointer (some a) := by rw [← Array.getD_eq_getD_getElem?]; exact hc
  simp [results, h, hc', asAddr, hl]

/-- The reference's page of a state: that one's, or 0 if there is none. -/
def refPg (pg : Int) : Int := max pg 0
def refV (s : Int × Int) : Value := .agg #[.int .i64 (refPg s.1), .int .i64 (16 - s.2)]

set_option maxRecDepth 100000 in
set_option maxHeartbeats 4000000 in
theorem ref10_Place (w : World) (pg us size page : Int) (hok : PlanOk pg us) (hs : I64 size) (hp : I64 page) :
    Calls Tryd.prog 47 #[refV (pg, us), .int .i64 size, .int .i64 page] w fun e w' => e = .returned (.tuple #[refV (placeP pg us size page), .int .i64 (placeA pg us size page), .int .i64 (placeE us size page)]) ∧ Ch No w w' := by
  have hb := hok.bd
  have hs' := hs.bd
  have hp' := hp.bd
  have hrp : 0 ≤ refPg pg ∧ refPg pg ≤ 1024 := by unfold refPg; omega
  have hpg : us < 16 → refPg pg = pg := by intro h; unfold refPg; rcases hok with q | q <;> omega
  have hneed : ∀ w, Calls Tryd.prog 45 #[.agg #[.int .i64 (refPg pg), .int .i64 (16 - us)], .int .i64 size] w fun e w' => e = .returned (.tuple #[.int .i64 (needN us size), .int .i64 (needE size)]) ∧ Ch No w w' :=
    fun w => ref10_Need w (refPg pg) us size hb.2.2 (show _ ∧ _ from by omega) hs
  have hpc := needN_pos (us := us) (size := size)
  have hN0 : (size < 1 ∨ 16384 < size) → needN us size = 0 ∧ needE size = 1 := fun q => by unfold needN needE; rw [if_pos q, if_pos q]; exact ⟨rfl, rfl⟩
  have hN1 : ¬ (size < 1 ∨ 16384 < size) → size ≤ 16 - us → needN us size = 0 ∧ needE size = 0 := fun q r => by unfold needN needE; rw [if_neg q, if_neg q, if_pos r]; exact ⟨rfl, rfl⟩
  unfold placeA placeE placeP refV
  simp only
  obtain ⟨rp, hrpe⟩ : ∃ rp, rp = refPg pg := ⟨_, rfl⟩
  rw [← hrpe] at hrp hpg
  simp only [← hrpe] at hneed ⊢
  have k3 : ((w.alloc (.cells #[.int .i64 rp, .int .i64 (16 - us)] 62)).alloc (.cells #[.int .i64 0, .int .i64 0] 62)).heap[w.heap.size]? = some (.cells #[.int .i64 rp, .int .i64 (16 - us)] 62 (0, 0)) := heap_al (heap_alloc_new _ _) _
  have k6 : ((w.alloc (.cells #[.int .i64 rp, .int .i64 (16 - us)] 62)).alloc (.cells #[.int .i64 0, .int .i64 0] 62)).heap[w.heap.size + 1]? = some (.cells #[.int .i64 0, .int .i64 0] 62 (0, 0)) := by
    have := heap_alloc_new (w.alloc (.cells #[.int .i64 rp, .int .i64 (16 - us)] 62)) (.cells #[.int .i64 0, .int .i64 0] 62)
    simpa using this
  by_cases h1 : size < 1 ∨ 16384 < size
  · simp only [if_pos h1]
    obtain ⟨r1, r2⟩ := hN0 h1
    rw [r1, r2] at hneed
    rw [← hrpe]
    clear hpc hN0 hN1 r1 r2 hrpe hpg
    go_enter Tryd.func47, Tryd.ntmps47
    go_wp2_with fail
    with_reducible refine (hneed _).mono ?_
    rintro e w1 ⟨rfl, hc1⟩
    have j3 := hc1.heap k3 (fun q => q)
    have j6 := hc1.heap k6 (fun q => q)
    have c0 : w1.cell? ⟨w.heap.size, 0, none⟩ = some (.int .i64 rp) := cellOf j3 0 rfl
    have c1 : w1.cell? ⟨w.heap.size, 1, none⟩ = some (.int .i64 (16 - us)) := cellOf j3 1 rfl
    have d0 : w1.cell? ⟨w.heap.size + 1, 0, none⟩ = some (.int .i64 0) := cellOf j6 0 rfl
    have d1 : w1.cell? ⟨w.heap.size + 1, 1, none⟩ = some (.int .i64 0) := cellOf j6 1 rfl
    have f0 := freeOf j6 0
    have f1 := freeOf j6 1
    clear k3 k6
    dsimp only
    go_wp2_with fail
    have m0 := heap_set (heap_set (i := 0) j6 (.int .i64 rp)) (i := 1) (.int .i64 (16 - us))
    have hw2 : Ch No w ((w1.setCell ⟨w.heap.size + 1, 0, none⟩ (.int .i64 rp)).setCell ⟨w.heap.size + 1, 1, none⟩ (.int .i64 (16 - us))) := Ch.setNew (Ch.setNew (((Ch.refl _ _).alloc _).alloc _ |>.trans hc1) (p := ⟨w.heap.size + 1, 0, none⟩) (by simp) _) (p := ⟨w.heap.size + 1, 1, none⟩) (by simp) _
    have e0 := cellOf m0 0 rfl
    have e1 := cellOf m0 1 rfl
    refine bodyPost_ret (results_cell3 (v := .agg #[.int .i64 rp, .int .i64 (16 - us)]) rfl _ _ _ (by rfl) (by go_simp)) rfl ?_
    exact ⟨rfl, hw2⟩
  · simp only [if_neg h1]
    by_cases h2 : size ≤ 16 - us
    · simp only [if_pos h2]
      obtain ⟨r1, r2⟩ := hN1 h1 h2
      rw [r1, r2] at hneed
      have hrr : refPg pg = pg := by rw [← hrpe]; exact hpg (by omega)
      have hpp := hpg (by omega)
      have hus : 0 < us + size ∧ size ≤ 16 := by omega
      rw [hrr]
      clear hpc hN0 hN1 r1 r2 hrpe hpg hrr
      have HH := Lib.hid h1; clear h1
      have W1 : IntKind.i64.wrap (16 * rp) = 16 * rp := IntWalk.i64_in _ (by omega)
      subst hpp
      go_enter Tryd.func47, Tryd.ntmps47
      go_wp2_with fail
      with_reducible refine (hneed _).mono ?_
      rintro e w1 ⟨rfl, hc1⟩
      have j3 := hc1.heap k3 (fun q => q)
      have j6 := hc1.heap k6 (fun q => q)
      have c0 : w1.cell? ⟨w.heap.size, 0, none⟩ = some (.int .i64 rp) := cellOf j3 0 rfl
      have c1 : w1.cell? ⟨w.heap.size, 1, none⟩ = some (.int .i64 (16 - us)) := cellOf j3 1 rfl
      have d0 : w1.cell? ⟨w.heap.size + 1, 0, none⟩ = some (.int .i64 0) := cellOf j6 0 rfl
      have d1 : w1.cell? ⟨w.heap.size + 1, 1, none⟩ = some (.int .i64 0) := cellOf j6 1 rfl
      have f0 := freeOf j6 0
      have f1 := freeOf j6 1
      have g0 := freeOf j3 0
      have g1 := freeOf j3 1
      have hW : Ch No w w1 := ((Ch.refl _ _).alloc _).alloc _ |>.trans hc1
      clear k3 k6
      dsimp only
      have n3 := heap_set j3 (i := 1) (.int .i64 (16 - us - size))
      have a1 : (w1.setCell ⟨w.heap.size, 1, none⟩ (.int .i64 (16 - us - size))).cell? ⟨w.heap.size, 1, none⟩ = some (.int .i64 (16 - us - size)) := cellOf n3 1 rfl
      go_wp2_with fail
      have m0 := heap_set (heap_set (i := 0) (heap_set_ne j6 (by omega : w.heap.size + 1 ≠ w.heap.size) (i := 1) (.int .i64 (16 - us - size))) (.int .i64 rp)) (i := 1) (.int .i64 (16 - us - size))
      have hw2 : Ch No w (((w1.setCell ⟨w.heap.size, 1, none⟩ (.int .i64 (16 - us - size))).setCell ⟨w.heap.size + 1, 0, none⟩ (.int .i64 rp)).setCell ⟨w.heap.size + 1, 1, none⟩ (.int .i64 (16 - us - size))) := Ch.setNew (Ch.setNew (Ch.setNew hW (p := ⟨w.heap.size, 1, none⟩) (by simp) _) (p := ⟨w.heap.size + 1, 0, none⟩) (by simp) _) (p := ⟨w.heap.size + 1, 1, none⟩) (by simp) _
      have e0 := cellOf m0 0 rfl
      have e1 := cellOf m0 1 rfl
      refine bodyPost_ret (results_cell3 (v := .agg #[.int .i64 rp, .int .i64 (16 - us - size)]) rfl _ _ _ (by rfl) (by go_simp)) rfl ?_
      exact ⟨by rw [show 16 - us - size = 16 - (us + size) by omega, show rp * 16 + us = 16 * rp + 16 - (16 - us) by omega]; rfl, hw2⟩
    · simp only [if_neg h2]
      obtain ⟨r1, r2, r3⟩ := hpc h1 h2 hb.2.2.1
      rw [r3] at hneed
      obtain ⟨n, hne⟩ : ∃ n, n = needN us size := ⟨_, rfl⟩
      rw [← hne] at hneed r1 r2
      have b0 : decide (n > 0) = true := decide_eq_true r1
      clear hpc hN0 hN1 hne r1 r2 r3 hpg
      have HH := Lib.hid h1; clear h1
      have HH2 := Lib.hid h2; clear h2
      by_cases h3 : page < 0 ∨ 1024 < page
      · simp only [if_pos h3]
        rw [← hrpe]
        clear hrpe
        by_cases h3a : page < 0
        · have b1 : decide (page < 0) = true := decide_eq_true h3a
          clear h3
          go_enter Tryd.func47, Tryd.ntmps47
          go_wp2_with fail
          with_reducible refine (hneed _).mono ?_
          rintro e w1 ⟨rfl, hc1⟩
          have j3 := hc1.heap k3 (fun q => q)
          have j6 := hc1.heap k6 (fun q => q)
          have c0 : w1.cell? ⟨w.heap.size, 0, none⟩ = some (.int .i64 rp) := cellOf j3 0 rfl
          have c1 : w1.cell? ⟨w.heap.size, 1, none⟩ = some (.int .i64 (16 - us)) := cellOf j3 1 rfl
          have d0 : w1.cell? ⟨w.heap.size + 1, 0, none⟩ = some (.int .i64 0) := cellOf j6 0 rfl
          have d1 : w1.cell? ⟨w.heap.size + 1, 1, none⟩ = some (.int .i64 0) := cellOf j6 1 rfl
          have f0 := freeOf j6 0
          have f1 := freeOf j6 1
          have g0 := freeOf j3 0
          have g1 := freeOf j3 1
          have hW : Ch No w w1 := ((Ch.refl _ _).alloc _).alloc _ |>.trans hc1
          clear k3 k6
          dsimp only
          go_wp2_with fail
          have m0 := heap_set (heap_set (i := 0) j6 (.int .i64 rp)) (i := 1) (.int .i64 (16 - us))
          have hw2 : Ch No w ((w1.setCell ⟨w.heap.size + 1, 0, none⟩ (.int .i64 rp)).setCell ⟨w.heap.size + 1, 1, none⟩ (.int .i64 (16 - us))) := Ch.setNew (Ch.setNew hW (p := ⟨w.heap.size + 1, 0, none⟩) (by simp) _) (p := ⟨w.heap.size + 1, 1, none⟩) (by simp) _
          have e0 := cellOf m0 0 rfl
          have e1 := cellOf m0 1 rfl
          refine bodyPost_ret (results_cell3 (v := .agg #[.int .i64 rp, .int .i64 (16 - us)]) rfl _ _ _ (by rfl) (by go_simp)) rfl ?_
          exact ⟨rfl, hw2⟩
        · have b1 : decide (page < 0) = false := decide_eq_false h3a
          have b2 : decide (page > 1024) = true := decide_eq_true (by omega)
          clear h3
          go_enter Tryd.func47, Tryd.ntmps47
          go_wp2_with fail
          with_reducible refine (hneed _).mono ?_
          rintro e w1 ⟨rfl, hc1⟩
          have j3 := hc1.heap k3 (fun q => q)
          have j6 := hc1.heap k6 (fun q => q)
          have c0 : w1.cell? ⟨w.heap.size, 0, none⟩ = some (.int .i64 rp) := cellOf j3 0 rfl
          have c1 : w1.cell? ⟨w.heap.size, 1, none⟩ = some (.int .i64 (16 - us)) := cellOf j3 1 rfl
          have d0 : w1.cell? ⟨w.heap.size + 1, 0, none⟩ = some (.int .i64 0) := cellOf j6 0 rfl
          have d1 : w1.cell? ⟨w.heap.size + 1, 1, none⟩ = some (.int .i64 0) := cellOf j6 1 rfl
          have f0 := freeOf j6 0
          have f1 := freeOf j6 1
          have g0 := freeOf j3 0
          have g1 := freeOf j3 1
          have hW : Ch No w w1 := ((Ch.refl _ _).alloc _).alloc _ |>.trans hc1
          clear k3 k6
          dsimp only
          go_wp2_with fail
          have m0 := heap_set (heap_set (i := 0) j6 (.int .i64 rp)) (i := 1) (.int .i64 (16 - us))
          have hw2 : Ch No w ((w1.setCell ⟨w.heap.size + 1, 0, none⟩ (.int .i64 rp)).setCell ⟨w.heap.size + 1, 1, none⟩ (.int .i64 (16 - us))) := Ch.setNew (Ch.setNew hW (p := ⟨w.heap.size + 1, 0, none⟩) (by simp) _) (p := ⟨w.heap.size + 1, 1, none⟩) (by simp) _
          have e0 := cellOf m0 0 rfl
          have e1 := cellOf m0 1 rfl
          refine bodyPost_ret (results_cell3 (v := .agg #[.int .i64 rp, .int .i64 (16 - us)]) rfl _ _ _ (by rfl) (by go_simp)) rfl ?_
          exact ⟨rfl, hw2⟩
      · simp only [if_neg h3]
        have b1 : decide (page < 0) = false := decide_eq_false (by omega)
        have b2 : decide (page > 1024) = false := decide_eq_false (by omega)
        by_cases h4 : 16 < size
        · simp only [if_pos h4]
          rw [← hrpe]
          clear hrpe
          have b3 : decide (size > 16) = true := decide_eq_true h4
          have hpb : 0 ≤ page ∧ page ≤ 1024 := by omega
          have W1 : IntKind.i64.wrap (16 * page) = page * 16 := by rw [IntWalk.i64_in _ (by omega)]; omega
          clear h3
          go_enter Tryd.func47, Tryd.ntmps47
          go_wp2_with fail
          with_reducible refine (hneed _).mono ?_
          rintro e w1 ⟨rfl, hc1⟩
          have j3 := hc1.heap k3 (fun q => q)
          have j6 := hc1.heap k6 (fun q => q)
          have c0 : w1.cell? ⟨w.heap.size, 0, none⟩ = some (.int .i64 rp) := cellOf j3 0 rfl
          have c1 : w1.cell? ⟨w.heap.size, 1, none⟩ = some (.int .i64 (16 - us)) := cellOf j3 1 rfl
          have d0 : w1.cell? ⟨w.heap.size + 1, 0, none⟩ = some (.int .i64 0) := cellOf j6 0 rfl
          have d1 : w1.cell? ⟨w.heap.size + 1, 1, none⟩ = some (.int .i64 0) := cellOf j6 1 rfl
          have f0 := freeOf j6 0
          have f1 := freeOf j6 1
          have g0 := freeOf j3 0
          have g1 := freeOf j3 1
          have hW : Ch No w w1 := ((Ch.refl _ _).alloc _).alloc _ |>.trans hc1
          clear k3 k6
          dsimp only
          go_wp2_with fail
          have m0 := heap_set (heap_set (i := 0) j6 (.int .i64 rp)) (i := 1) (.int .i64 (16 - us))
          have hw2 : Ch No w ((w1.setCell ⟨w.heap.size + 1, 0, none⟩ (.int .i64 rp)).setCell ⟨w.heap.size + 1, 1, none⟩ (.int .i64 (16 - us))) := Ch.setNew (Ch.setNew hW (p := ⟨w.heap.size + 1, 0, none⟩) (by simp) _) (p := ⟨w.heap.size + 1, 1, none⟩) (by simp) _
          have e0 := cellOf m0 0 rfl
          have e1 := cellOf m0 1 rfl
          refine bodyPost_ret (results_cell3 (v := .agg #[.int .i64 rp, .int .i64 (16 - us)]) rfl _ _ _ (by rfl) (by go_simp)) rfl ?_
          exact ⟨rfl, hw2⟩
        · simp only [if_neg h4]
          have b3 : decide (size > 16) = false := decide_eq_false h4
          have hpb : 0 ≤ page ∧ page ≤ 1024 := by omega
          have hpr : refPg page = page := by unfold refPg; omega
          rw [hpr]
          have hsz : 1 ≤ size := by have := HH.out; omega
          clear h3 hrpe hpr
          go_enter Tryd.func47, Tryd.ntmps47
          go_wp2_with fail
          with_reducible refine (hneed _).mono ?_
          rintro e w1 ⟨rfl, hc1⟩
          have j3 := hc1.heap k3 (fun q => q)
          have j6 := hc1.heap k6 (fun q => q)
          have c0 : w1.cell? ⟨w.heap.size, 0, none⟩ = some (.int .i64 rp) := cellOf j3 0 rfl
          have c1 : w1.cell? ⟨w.heap.size, 1, none⟩ = some (.int .i64 (16 - us)) := cellOf j3 1 rfl
          have d0 : w1.cell? ⟨w.heap.size + 1, 0, none⟩ = some (.int .i64 0) := cellOf j6 0 rfl
          have d1 : w1.cell? ⟨w.heap.size + 1, 1, none⟩ = some (.int .i64 0) := cellOf j6 1 rfl
          have f0 := freeOf j6 0
          have f1 := freeOf j6 1
          have g0 := freeOf j3 0
          have g1 := freeOf j3 1
          have hW : Ch No w w1 := ((Ch.refl _ _).alloc _).alloc _ |>.trans hc1
          clear k3 k6
          dsimp only
          have n2 := heap_set (heap_set (i := 0) j3 (.int .i64 page)) (i := 1) (.int .i64 16)
          have n3 := heap_set n2 (i := 1) (.int .i64 (16 - size))
          have a0 : ((w1.setCell ⟨w.heap.size, 0, none⟩ (.int .i64 page)).setCell ⟨w.heap.size, 1, none⟩ (.int .i64 16)).cell? ⟨w.heap.size, 0, none⟩ = some (.int .i64 page) := cellOf n2 0 rfl
          have a1 : ((w1.setCell ⟨w.heap.size, 0, none⟩ (.int .i64 page)).setCell ⟨w.heap.size, 1, none⟩ (.int .i64 16)).cell? ⟨w.heap.size, 1, none⟩ = some (.int .i64 16) := cellOf n2 1 rfl
          have af : ((w1.setCell ⟨w.heap.size, 0, none⟩ (.int .i64 page)).setCell ⟨w.heap.size, 1, none⟩ (.int .i64 16)).frozen? ⟨w.heap.size, 1, none⟩ = false := freeOf n2 1
          have a2 : (((w1.setCell ⟨w.heap.size, 0, none⟩ (.int .i64 page)).setCell ⟨w.heap.size, 1, none⟩ (.int .i64 16)).setCell ⟨w.heap.size, 1, none⟩ (.int .i64 (16 - size))).cell? ⟨w.heap.size, 1, none⟩ = some (.int .i64 (16 - size)) := cellOf n3 1 rfl
          have a3 : (((w1.setCell ⟨w.heap.size, 0, none⟩ (.int .i64 page)).setCell ⟨w.heap.size, 1, none⟩ (.int .i64 16)).setCell ⟨w.heap.size, 1, none⟩ (.int .i64 (16 - size))).cell? ⟨w.heap.size, 0, none⟩ = some (.int .i64 page) := cellOf n3 0 rfl
          go_wp2_with fail
          have m0 := heap_set (heap_set (i := 0) (heap_set_ne (heap_set_ne (heap_set_ne j6 (by omega : w.heap.size + 1 ≠ w.heap.size) (i := 0) (.int .i64 page)) (by omega : w.heap.size + 1 ≠ w.heap.size) (i := 1) (.int .i64 16)) (by omega : w.heap.size + 1 ≠ w.heap.size) (i := 1) (.int .i64 (16 - size))) (.int .i64 page)) (i := 1) (.int .i64 (16 - size))
          have hw2 : Ch No w (((((w1.setCell ⟨w.heap.size, 0, none⟩ (.int .i64 page)).setCell ⟨w.heap.size, 1, none⟩ (.int .i64 16)).setCell ⟨w.heap.size, 1, none⟩ (.int .i64 (16 - size))).setCell ⟨w.heap.size + 1, 0, none⟩ (.int .i64 page)).setCell ⟨w.heap.size + 1, 1, none⟩ (.int .i64 (16 - size))) := Ch.setNew (Ch.setNew (Ch.setNew (Ch.setNew (Ch.setNew hW (p := ⟨w.heap.size, 0, none⟩) (by simp) _) (p := ⟨w.heap.size, 1, none⟩) (by simp) _) (p := ⟨w.heap.size, 1, none⟩) (by simp) _) (p := ⟨w.heap.size + 1, 0, none⟩) (by simp) _) (p := ⟨w.heap.size + 1, 1, none⟩) (by simp) _
          have e0 := cellOf m0 0 rfl
          have e1 := cellOf m0 1 rfl
          refine bodyPost_ret (results_cell3 (v := .agg #[.int .i64 page, .int .i64 (16 - size)]) rfl _ _ _ (by rfl) (by go_simp)) rfl ?_
          exact ⟨by rw [show page * 16 = 16 * page by omega]; rfl, hw2⟩
end Go.Proofs.YtpldogmamifdpaaDoor

/- Package plan: Place. -/
import Derived.Test.YtpldogmamifdpaaDoorPlan
set_option linter.unusedVariables false
set_option linter.unusedSimpArgs false
namespace Go.Proofs.YtpldogmamifdpaaDoor
open Go Go.RowKit

theorem needN_pos {us size : Int} (h1 : ¬ (size < 1 ∨ 16384 < size)) (h2 : ¬ size ≤ 16 - us) (hu : 0 ≤ us) : 0 < needN us size ∧ needN us size ≤ 1024 ∧ needE size = 0 := by
  unfold needN needE
  rw [if_neg h1, if_neg h2, if_neg h1]
  by_cases h : 16 < size
  · omega
  · omega

set_option maxRecDepth 100000 in
set_option maxHeartbeats 2000000 in
theorem plan_Place (w : World) (p : Nat) (pg us size page : Int) (h : PlanAt w p pg us) (hn : Nw w) (hs : I64 size) (hp : I64 page) :
    Calls Tryd.prog 33 #[.pointer (some ⟨p, 0, none⟩), .int .i64 size, .int .i64 page] w fun e w' => e = .returned (.tuple #[.int .i64 (placeA pg us size page), .int .i64 (placeE us size page)]) ∧ PlanAt w' p (placeP pg us size page).1 (placeP pg us size page).2 ∧ Ch (One p) w w' := by
  have hb := h.ok.bd
  have hs' := hs.bd
  have hp' := hp.bd
  have hok := placeP_ok h.ok size page
  have hneed := plan_Need w p pg us size h hn hs
  have hpc := needN_pos (us := us) (size := size)
  have hN0 : (size < 1 ∨ 16384 < size) → needN us size = 0 ∧ needE size = 1 := fun q => by unfold needN needE; rw [if_pos q, if_pos q]; exact ⟨rfl, rfl⟩
  have hN1 : ¬ (size < 1 ∨ 16384 < size) → size ≤ 16 - us → needN us size = 0 ∧ needE size = 0 := fun q r => by unfold needN needE; rw [if_neg q, if_neg q, if_pos r]; exact ⟨rfl, rfl⟩
  unfold placeA placeE placeP at *
  by_cases h1 : size < 1 ∨ 16384 < size
  · simp only [if_pos h1] at hok ⊢
    obtain ⟨r1, r2⟩ := hN0 h1
    rw [r1, r2] at hneed
    clear hpc hN0 hN1 r1 r2
    go_enter Tryd.func33, Tryd.ntmps33
    go_wp2_with fail
    with_reducible refine hneed.mono ?_
    rintro e w1 ⟨rfl, hc1⟩
    dsimp only
    go_wp2_with fail
    go_ret2
    exact ⟨rfl, h.ch hc1 (fun q => q), hc1.ofNo⟩
  · simp only [if_neg h1] at hok ⊢
    by_cases h2 : size ≤ 16 - us
    · simp only [if_pos h2] at hok ⊢
      obtain ⟨r1, r2⟩ := hN1 h1 h2
      rw [r1, r2] at hneed
      clear hpc hN0 hN1 r1 r2
      have HH := Lib.hid h1; clear h1
      go_enter Tryd.func33, Tryd.ntmps33
      go_wp2_with fail
      with_reducible refine hneed.mono ?_
      rintro e w1 ⟨rfl, hc1⟩
      have hh := (h.ch hc1 (fun q => q)).head
      have c0 := cellOf hh 0 rfl
      have c1 := cellOf hh 1 rfl
      have f1 := freeOf hh 1
      simp only [List.getElem_toArray, List.getElem_cons_zero, List.getElem_cons_succ] at c0 c1
      dsimp only
      go_wp2_with fail
      go_quiet (fail)
      go_wp2_with fail
      go_ret2
      have hd : (w1.drewN nq).heap[p]? = some (.cells #[.int .i64 pg, .int .i64 us] 103 (0, 0)) := hh
      exact ⟨rfl, ⟨heap_set hd _, hok⟩, Ch.setIn (F := One p) (hc1.ofNo.drewN _) (p := ⟨p, 1, none⟩) rfl _⟩
    · simp only [if_neg h2] at hok ⊢
      obtain ⟨r1, r2, r3⟩ := hpc h1 h2 hb.2.2.1
      rw [r3] at hneed
      obtain ⟨n, hne⟩ : ∃ n, n = needN us size := ⟨_, rfl⟩
      rw [← hne] at hneed r1 r2
      have b0 : decide (n > 0) = true := decide_eq_true r1
      clear hpc hN0 hN1 hne r1 r2 r3
      have HH := Lib.hid h1; clear h1
      have HH2 := Lib.hid h2; clear h2
      by_cases h3 : page < 0 ∨ 1024 < page
      · simp only [if_pos h3] at hok ⊢
        by_cases h3a : page < 0
        · have b1 : decide (page < 0) = true := decide_eq_true h3a
          clear h3
          go_enter Tryd.func33, Tryd.ntmps33
          go_wp2_with fail
          with_reducible refine hneed.mono ?_
          rintro e w1 ⟨rfl, hc1⟩
          dsimp only
          go_wp2_with fail
          go_ret2
          exact ⟨rfl, h.ch hc1 (fun q => q), hc1.ofNo⟩
        · have b1 : decide (page < 0) = false := decide_eq_false h3a
          have b2 : decide (page > 1024) = true := decide_eq_true (by omega)
          clear h3
          go_enter Tryd.func33, Tryd.ntmps33
          go_wp2_with fail
          with_reducible refine hneed.mono ?_
          rintro e w1 ⟨rfl, hc1⟩
          dsimp only
          go_wp2_with fail
          go_ret2
          exact ⟨rfl, h.ch hc1 (fun q => q), hc1.ofNo⟩
      · simp only [if_neg h3] at hok ⊢
        have b1 : decide (page < 0) = false := decide_eq_false (by omega)
        have b2 : decide (page > 1024) = false := decide_eq_false (by omega)
        by_cases h4 : 16 < size
        · simp only [if_pos h4] at hok ⊢
          have b3 : decide (size > 16) = true := decide_eq_true h4
          have W1 : IntKind.i64.wrap (page * 16) = page * 16 := IntWalk.i64_in _ (by omega)
          clear h3
          go_enter Tryd.func33, Tryd.ntmps33
          go_wp2_with fail
          with_reducible refine hneed.mono ?_
          rintro e w1 ⟨rfl, hc1⟩
          dsimp only
          go_wp2_with fail
          go_ret2
          exact ⟨rfl, h.ch hc1 (fun q => q), hc1.ofNo⟩
        · simp only [if_neg h4] at hok ⊢
          have b3 : decide (size > 16) = false := decide_eq_false h4
          have hpg : 0 ≤ page ∧ page ≤ 1024 := by omega
          clear h3
          go_enter Tryd.func33, Tryd.ntmps33
          go_wp2_with fail
          with_reducible refine hneed.mono ?_
          rintro e w1 ⟨rfl, hc1⟩
          have hh := (h.ch hc1 (fun q => q)).head
          have c0 := cellOf hh 0 rfl
          have c1 := cellOf hh 1 rfl
          have f0 := freeOf hh 0
          have f1 := freeOf hh 1
          dsimp only
          go_wp2_with fail
          have hd := heap_set (heap_set (i := 0) hh (.int .i64 page)) (i := 1) (.int .i64 0)
          have hw2 : Ch (One p) w ((w1.setCell ⟨p, 0, none⟩ (.int .i64 page)).setCell ⟨p, 1, none⟩ (.int .i64 0)) := Ch.setIn (F := One p) (Ch.setIn (F := One p) hc1.ofNo (p := ⟨p, 0, none⟩) rfl _) (p := ⟨p, 1, none⟩) rfl _
          obtain ⟨w2, e2⟩ : ∃ z, z = (w1.setCell ⟨p, 0, none⟩ (.int .i64 page)).setCell ⟨p, 1, none⟩ (.int .i64 0) := ⟨_, rfl⟩
          rw [← e2] at hd hw2 ⊢
          have d0 : w2.cell? ⟨p, 0, none⟩ = some (.int .i64 page) := cellOf hd 0 rfl
          have d1 : w2.cell? ⟨p, 1, none⟩ = some (.int .i64 0) := cellOf hd 1 rfl
          have df : w2.frozen? ⟨p, 1, none⟩ = false := freeOf hd 1
          have W1 : IntKind.i64.wrap (page * 16) = page * 16 := IntWalk.i64_in _ (by omega)
          clear e2 hh c0 c1 f0 f1 h hneed
          go_quiet (fail)
          go_wp2_with fail
          go_ret2
          have hd' : (w2.drewN nq).heap[p]? = some (.cells #[.int .i64 page, .int .i64 0] 103 (0, 0)) := hd
          exact ⟨by simp, ⟨by have := heap_set hd' (i := 1) (.int .i64 size); simpa using this, hok⟩, Ch.setIn (F := One p) (hw2.drewN _) (p := ⟨p, 1, none⟩) rfl _⟩
end Go.Proofs.YtpldogmamifdpaaDoor

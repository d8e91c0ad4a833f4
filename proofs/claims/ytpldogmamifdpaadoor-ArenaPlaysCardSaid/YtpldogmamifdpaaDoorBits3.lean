/- Package bits: Mark. -/
import Derived.Test.YtpldogmamifdpaaDoorBits2
import Derived.StillTailTactics
set_option linter.unusedVariables false
set_option linter.unusedSimpArgs false
namespace Go.Proofs.YtpldogmamifdpaaDoor
open Go Go.RowKit

theorem getD_set (x : List Bool) (i j : Nat) (b : Bool) (h : i < x.length) : (x.set i b).getD j false = if j = i then b else x.getD j false := by
  simp only [List.getD_eq_getElem?_getD, List.getElem?_set]
  by_cases hj : i = j
  · subst hj; simp [h]
  · rw [if_neg hj, if_neg (fun e => hj e.symm)]
theorem words_put (x : List Bool) (i : Nat) (h : i < x.length) (b : Bool) :
    (wordsOf x).set (i / 64) ((ofB (fun j => if j = i % 64 then b else x.getD (64 * (i / 64) + j) false) 64 : Nat) : Int) = wordsOf (x.set i b) := by
  apply List.ext_getElem
  · simp [wordsOf_length]
  · intro k h1 h2
    rw [wordsOf_get, List.getElem_set]
    by_cases hk : i / 64 = k
    · rw [if_pos hk]
      subst hk
      congr 1
      unfold wordAt
      refine ofB_congr fun j hj => ?_
      rw [getD_set x i _ b h]
      by_cases hj2 : j = i % 64
      · rw [if_pos hj2, if_pos (by omega)]
      · rw [if_neg hj2, if_neg (by omega)]
    · rw [if_neg hk, wordsOf_get]
      congr 1
      unfold wordAt
      refine ofB_congr fun j hj => ?_
      rw [getD_set x i _ b h, if_neg (by omega)]
def markB (x : List Bool) (a : Nat) (on : Bool) : Nat → List Bool
  | 0 => x
  | k + 1 => (markB x a on k).set (a + k) on
theorem markB_length (x : List Bool) (a : Nat) (on : Bool) : ∀ k, (markB x a on k).length = x.length
  | 0 => rfl
  | k + 1 => by rw [markB, List.length_set, markB_length x a on k]
theorem markB_get (x : List Bool) (a : Nat) (on : Bool) : ∀ k j, a + k ≤ x.length → (markB x a on k).getD j false = if a ≤ j ∧ j < a + k then on else x.getD j false
  | 0, j, _ => by rw [if_neg (by omega)]; rfl
  | k + 1, j, h => by
    rw [markB, getD_set _ _ _ _ (by rw [markB_length]; omega), markB_get x a on k j (by omega)]
    by_cases hj : j = a + k
    · rw [if_pos hj, if_pos (by omega)]
    · rw [if_neg hj]
      by_cases h2 : a ≤ j ∧ j < a + k
      · rw [if_pos h2, if_pos (by omega)]
      · rw [if_neg h2, if_neg (by omega)]

/-- A word written. -/
theorem RowAt.put {w : World} {p g : Nat} {x : List Bool} (h : RowAt w p g x) (i : Nat) (hi : i < x.length) (b : Bool) (v : Nat)
    (hv : v = ofB (fun j => if j = i % 64 then b else x.getD (64 * (i / 64) + j) false) 64) : RowAt (w.setCell ⟨g, i / 64, none⟩ (.int .u64 v)) p g (x.set i b) := by
  refine ⟨h.pg, by rw [List.length_set]; exact h.le, ?_, ?_⟩
  · rw [List.length_set]; exact heap_set_ne h.head h.pg _
  · have := heap_set h.row (i := i / 64) (.int .u64 v)
    rw [ints_set, hv, words_put x i hi b] at this
    rw [hv]
    exact this

theorem bits_Mark_no (w : World) (p g : Nat) (x : List Bool) (a b : Int) (on : Bool) (h : RowAt w p g x) (ha : I64 a) (hb : I64 b) (hf : ¬ fitsB x.length a b) :
    Calls Tryd.prog 50 #[.pointer (some ⟨p, 0, none⟩), .agg #[.int .i64 a, .int .i64 b], .bool on] w fun e w' => e = .returned (.int .i64 8) ∧ Ch No w w' := by
  have hfit := bits_fits (w.alloc (.cells #[.int .i64 a, .int .i64 b] 37)) p g x a b (h.ch0 ((Ch.refl No w).alloc _)) ha hb
  have hal : Ch No w (w.alloc (.cells #[.int .i64 a, .int .i64 b] 37)) := (Ch.refl _ _).alloc _
  rw [decide_eq_false hf] at hfit
  clear hf
  go_enter Tryd.func50, Tryd.ntmps50
  go_wp2_with fail
  with_reducible refine hfit.mono ?_
  rintro e w1 ⟨rfl, hc1⟩
  dsimp only
  go_wp2_with fail
  go_ret
  exact ⟨rfl, hal.trans hc1⟩

set_option maxRecDepth 100000 in
set_option maxHeartbeats 2000000 in
theorem bits_Mark (w : World) (p g : Nat) (x : List Bool) (A B : Nat) (on : Bool) (h : RowAt w p g x) (hAB : A + B ≤ x.length) :
    Calls Tryd.prog 50 #[.pointer (some ⟨p, 0, none⟩), .agg #[.int .i64 A, .int .i64 B], .bool on] w fun e w' => e = .returned (.int .i64 0) ∧ RowAt w' p g (markB x A on B) ∧ Ch (One g) w w' := by
  have hle := h.le
  have hfit := bits_fits (w.alloc (.cells #[.int .i64 A, .int .i64 B] 37)) p g x A B (h.ch0 ((Ch.refl No w).alloc _)) (show _ ∧ _ from by omega) (show _ ∧ _ from by omega)
  rw [decide_eq_true (show fitsB x.length A B from by unfold fitsB; omega)] at hfit
  have hal : Ch No w (w.alloc (.cells #[.int .i64 A, .int .i64 B] 37)) := (Ch.refl _ _).alloc _
  have d0 : (w.alloc (.cells #[.int .i64 A, .int .i64 B] 37)).cell? ⟨w.heap.size, 0, none⟩ = some (.int .i64 A) := by simp
  have d1 : (w.alloc (.cells #[.int .i64 A, .int .i64 B] 37)).cell? ⟨w.heap.size, 1, none⟩ = some (.int .i64 B) := by simp
  have hlt := h.lt
  go_enter Tryd.func50, Tryd.ntmps50
  go_wp2_with fail
  with_reducible refine hfit.mono ?_
  rintro e w1 ⟨rfl, hc1⟩
  have e0 := hc1.cell d0 (fun q => q)
  have e1 := hc1.cell d1 (fun q => q)
  have h1 := (h.ch0 hal).ch0 hc1
  have hcw := hal.trans hc1
  obtain ⟨X, hX⟩ : ∃ X, X = w.heap.size := ⟨_, rfl⟩
  rw [← hX] at e0 e1 ⊢
  have hXg : ¬ One g X := fun q => by have : X = g := q; omega
  clear hX hfit d0 d1 hal hc1 h
  dsimp only
  go_wp2_with fail
  go_loopw [7] (fun i wr => ∃ k : Nat, k ≤ B ∧ i = .int .i64 (A + k : Nat) ∧ RowAt wr p g (markB x A on k) ∧ Ch (One g) w1 wr) (fun i _ => A + B - (intOf i).toNat)
  case atStart => exact ⟨0, by omega, rfl, h1, Ch.refl _ _⟩
  case round =>
    obtain ⟨k, hk, rfl, hr, hc⟩ := hrel
    clear h1
    have e0 := hc.cell e0 hXg
    have e1 := hc.cell e1 hXg
    by_cases hkB : k < B
    · have hb1 : decide (((A + k : Nat) : Int) < (A : Int) + (B : Int)) = true := decide_eq_true (by omega)
      have hml := markB_length x A on k
      have hmk : markB x A on (k + 1) = (markB x A on k).set (A + k) on := rfl
      obtain ⟨y, hy⟩ : ∃ y, y = markB x A on k := ⟨_, rfl⟩
      rw [← hy] at hr hml hmk
      obtain ⟨q, hq⟩ : ∃ q, q = A + k := ⟨_, rfl⟩
      have hqy : q < y.length := by omega
      rw [← hq] at hb1 hmk ⊢
      have hqb : q < 20000 := by omega
      have HQ := Lib.hid hq; have HY := Lib.hid hmk
      clear hq hmk hy
      have T1 : (q : Int).tdiv 64 = ((q / 64 : Nat) : Int) := by rw [Int.tdiv_eq_ediv_of_nonneg (by omega)]; omega
      have T2 : (q : Int).tmod 64 = ((q % 64 : Nat) : Int) := by rw [Int.tmod_eq_emod_of_nonneg (by omega)]; omega
      have W1 : IntKind.i64.wrap ((q / 64 : Nat) : Int) = ((q / 64 : Nat) : Int) := IntWalk.i64_in _ (by omega)
      have W2 : IntKind.i64.wrap ((q % 64 : Nat) : Int) = ((q % 64 : Nat) : Int) := IntWalk.i64_in _ (by omega)
      have c0 : wr.cell? ⟨p, 0, none⟩ = some (.slice (some ⟨g, 0, none⟩) ((y.length + 63) / 64) ((y.length + 63) / 64)) := cellOf hr.head 0 rfl
      obtain ⟨L, hL⟩ : ∃ L, L = (y.length + 63) / 64 := ⟨_, rfl⟩
      have hlen := wordsOf_length y
      rw [← hL] at hlen c0
      have hqL : q / 64 < L := by omega
      have hcell : wr.cell? ⟨g, q / 64, none⟩ = some (.int .u64 (wordAt y (q / 64))) := by
        refine cellOf hr.row (q / 64) ?_
        rw [ints_get .u64 (wordsOf y) (q / 64) (by omega), wordsOf_get]
      have hfz := freeOf hr.row (q / 64)
      have hcl := ofB_clear (fun j => y.getD (64 * (q / 64) + j) false) (q % 64) (by omega)
      obtain ⟨W, hW⟩ : ∃ W, W = wordAt y (q / 64) := ⟨_, rfl⟩
      have hWl := wordAt_lt y (q / 64)
      rw [← hW] at hcell hWl
      have hcl2 : W &&& (18446744073709551615 - 2 ^ (q % 64)) = ofB (fun j => if j = q % 64 then false else y.getD (64 * (q / 64) + j) false) 64 := by rw [hW]; exact hcl
      obtain ⟨V, hV⟩ : ∃ V, V = W &&& (18446744073709551615 - 2 ^ (q % 64)) := ⟨_, rfl⟩
      have hpos := Nat.pow_lt_pow_right (a := 2) (by omega) (show q % 64 < 64 by omega)
      have hVl : V < 18446744073709551616 := by rw [hV]; exact Nat.lt_of_le_of_lt Nat.and_le_left hWl
      have B1 : IntKind.u64.wrap (2 ^ (q % 64)) = (2 : Int) ^ (q % 64) := by
        rw [show ((2 : Int) ^ (q % 64)) = ((2 ^ (q % 64) : Nat) : Int) by simp]; exact u64w _ (by omega)
      have hpi : ((2 ^ (q % 64) : Nat) : Int) = (2 : Int) ^ (q % 64) := by simp
      have B2 := u64_andNot_nat W (2 ^ (q % 64)) hWl (by omega)
      rw [← hV, hpi] at B2
      have hr2 := hr.put q hqy false V (by rw [hV]; exact hcl2)
      have hVw : V = wordAt (y.set q false) (q / 64) := by
        rw [hV, hcl2]
        refine ofB_congr fun j hj => ?_
        rw [getD_set y q _ false hqy]
        by_cases hj2 : j = q % 64
        · rw [if_pos hj2, if_pos (by omega)]
        · rw [if_neg hj2, if_neg (by omega)]
      have hst := ofB_set (fun j => (y.set q false).getD (64 * (q / 64) + j) false) (q % 64) (by omega)
      obtain ⟨V2, hV2⟩ : ∃ V2, V2 = V ||| 2 ^ (q % 64) := ⟨_, rfl⟩
      have hst2 : V2 = ofB (fun j => if j = q % 64 then true else (y.set q false).getD (64 * (q / 64) + j) false) 64 := by rw [hV2, hVw]; exact hst
      have B3 := u64_or_nat V (2 ^ (q % 64)) hVl (by omega)
      rw [← hV2, hpi] at B3
      have hr3 : ∀ w', RowAt w' p g (y.set q false) → RowAt (w'.setCell ⟨g, q / 64, none⟩ (.int .u64 V2)) p g (y.set q true) := by
        intro w' h'
        have := h'.put q (by rw [List.length_set]; exact hqy) true V2 hst2
        rwa [List.set_set] at this
      have hcell2 : ∀ w', RowAt w' p g (y.set q false) → w'.cell? ⟨g, q / 64, none⟩ = some (.int .u64 V) ∧ w'.frozen? ⟨g, q / 64, none⟩ = false ∧ w'.cell? ⟨p, 0, none⟩ = some (.slice (some ⟨g, 0, none⟩) L L) := by
        intro w' h'
        have hl2 := wordsOf_length (y.set q false)
        rw [List.length_set, ← hL] at hl2
        refine ⟨?_, freeOf h'.row _, ?_⟩
        · refine cellOf h'.row (q / 64) ?_
          rw [ints_get .u64 _ (q / 64) (by omega), wordsOf_get, hVw]
        · have := cellOf h'.head 0 rfl
          rw [List.length_set, ← hL] at this
          exact this
      have HV := Lib.hid hV; have HW := Lib.hid hW; have HLL := Lib.hid hL
      obtain ⟨qq, hqq⟩ : ∃ z, z = q / 64 := ⟨_, rfl⟩
      obtain ⟨s, hs⟩ : ∃ z, z = q % 64 := ⟨_, rfl⟩
      have hs64 : s < 64 := by omega
      simp only [← hqq, ← hs] at *
      have hqL2 : (qq : Int) < (L : Int) := by omega
      clear hqq hs hcl hcl2 hV hW hL hst hst2 hV2 hVw hpi
      have hwz := hc.size
      have hrd : RowAt ((wr.setCell ⟨g, qq, none⟩ (.int .u64 V)).drew) p g (y.set q false) := hr2.ch0 (Ch.refl No _).drew
      have hcd : Ch (One g) w1 ((wr.setCell ⟨g, qq, none⟩ (.int .u64 V)).drew) := (Ch.setIn (F := One g) hc (p := ⟨g, qq, none⟩) rfl _).drew
      have hcs : Ch (One g) wr ((wr.setCell ⟨g, qq, none⟩ (.int .u64 V)).drew) := (Ch.setIn (F := One g) (Ch.refl _ _) (p := ⟨g, qq, none⟩) rfl _).drew
      cases on
      · go_wp2_with fail
        go_still_tail 13, (by kernel_rfl)
        change wpList _ _ _ _ _ wr.drew
        go_wp2_with fail
        go_roundw
        case rel => exact ⟨k + 1, by omega, by have := HQ.out; rw [this]; go_num, by rw [HY.out]; exact hrd, hcd⟩
        case measure =>
          have := HQ.out
          exact meas_lt (by omega)
      · go_wp2_with fail
        go_still_tail 13, (by kernel_rfl)
        change wpList _ _ _ _ _ wr.drew
        go_wp2_with fail
        have e0' := hcs.cell e0 hXg
        have e1' := hcs.cell e1 hXg
        obtain ⟨f0, f1, f2⟩ := hcell2 _ hrd
        have hr4 := hr3 _ hrd
        have hc4 : Ch (One g) w1 (((wr.setCell ⟨g, qq, none⟩ (.int .u64 V)).drew.setCell ⟨g, qq, none⟩ (.int .u64 V2)).drew) := (Ch.setIn (F := One g) hcd (p := ⟨g, qq, none⟩) rfl _).drew
        have hr5 : RowAt ((((wr.setCell ⟨g, qq, none⟩ (.int .u64 V)).drew.setCell ⟨g, qq, none⟩ (.int .u64 V2)).drew)) p g (y.set q true) := hr4.ch0 (Ch.refl No _).drew
        obtain ⟨w5, hw5⟩ : ∃ z, z = (wr.setCell ⟨g, qq, none⟩ (.int .u64 V)).drew := ⟨_, rfl⟩
        rw [← hw5] at e0' e1' f0 f1 f2 hr5 hc4 ⊢
        clear hw5 hr4 hrd hcd hcs hr2 hr3 hcell2 hcell hfz c0 e0 e1
        go_still_tail 13, (by kernel_rfl)
        change wpList _ _ _ _ _ w5.drew
        go_wp2_with fail
        go_roundw
        case rel => exact ⟨k + 1, by omega, by have := HQ.out; rw [this]; go_num, by rw [HY.out]; exact hr5, hc4⟩
        case measure =>
          have := HQ.out
          exact meas_lt (by omega)
    · obtain rfl : k = B := by omega
      have hb1 : decide (((A + k : Nat) : Int) < (A : Int) + (k : Int)) = false := decide_eq_false (by omega)
      go_wp2_with fail
      go_ret
      exact ⟨rfl, hr, hcw.ofNo.trans hc⟩
end Go.Proofs.YtpldogmamifdpaaDoor

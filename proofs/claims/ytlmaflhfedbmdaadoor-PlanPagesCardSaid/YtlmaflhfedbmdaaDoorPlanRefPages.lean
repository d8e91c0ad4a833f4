/- The reference of plan: Pages. -/
import Derived.Test.YtlmaflhfedbmdaaDoorPlanPages
import Derived.Deep.RegionWith
import Derived.Deep.RegionHeld3
set_option linter.unusedVariables false
set_option linter.unusedSimpArgs false
namespace Go.Proofs.YtlmaflhfedbmdaaDoor
open Go Go.RowKit

theorem placeP_bad {pg us size : Int} (page : Int) (h : needE size ≠ 0) : placeP pg us size page = (pg, us) ∧ needN us size = 0 := by
  unfold needE at h
  by_cases h1 : size < 1 ∨ 16384 < size
  · unfold placeP needN
    rw [if_pos h1, if_pos h1]
    exact ⟨rfl, rfl⟩
  · rw [if_neg h1] at h
    exact absurd rfl h

set_option maxRecDepth 100000 in
set_option maxHeartbeats 4000000 in
theorem ref10_Pages (F : Nat → Prop) (w : World) (a : Option Addr) (c : Nat) (l : List Int) (h : SlR (intRp .i64) F w a c l) (hl : l.length ≤ 1000) :
    Calls Tryd.prog 14 #[.slice a l.length c] w fun e w' => e = .returned (.int .i64 (sumTo (fun _ => 0) l l.length)) ∧ Ch No w w' := by
  go_enter Tryd.func14, Tryd.ntmps14
  go_wp2_with fail
  have hxh := heap_alloc_new w (.cells #[.int .i64 0, .int .i64 0] 27)
  have hc1 : Ch No w (w.alloc (.cells #[.int .i64 0, .int .i64 0] 27)) := (Ch.refl _ _).alloc _
  obtain ⟨X, hX⟩ : ∃ X, X = w.heap.size := ⟨_, rfl⟩
  rw [← hX] at hxh ⊢
  go_loopw [4, 5] (fun t i wr => ∃ k : Nat, k ≤ l.length ∧ i = .int .i64 k ∧ t = .int .i64 (sumTo (fun _ => 0) l k) ∧ wr.heap[X]? = some (.cells #[.int .i64 (refPg (stOf (fun _ => 0) l k).1), .int .i64 (16 - (stOf (fun _ => 0) l k).2)] 27 (0, 0)) ∧ Ch No w wr) (fun _ i _ => l.length - (intOf i).toNat)
  case atStart => exact ⟨0, by omega, rfl, rfl, hxh, hc1⟩
  case round =>
    obtain ⟨k, hk, rfl, rfl, hx, hc⟩ := hrel
    clear hxh hc1
    by_cases hlt : k < l.length
    · obtain ⟨b, off, rfl, _, _, d0, hi0⟩ := (h.ch0 hc).int_at k hlt
      have hbd := sumTo_bd (fun _ => 0) l k
      have hok := stOf_ok (fun _ => 0) l k
      have e1 : sumTo (fun _ => 0) l (k + 1) = sumTo (fun _ => 0) l k + needN (stOf (fun _ => 0) l k).2 (l.getD k 0) := rfl
      have e2 : stOf (fun _ => 0) l (k + 1) = placeP (stOf (fun _ => 0) l k).1 (stOf (fun _ => 0) l k).2 (l.getD k 0) 0 := rfl
      have hg : l.getD k 0 = l[k] := by simp [List.getD_eq_getElem?_getD, hlt]
      rw [hg] at e1 e2
      obtain ⟨x, hxe⟩ : ∃ x, x = l[k] := ⟨_, rfl⟩
      rw [← hxe] at d0 hi0 e1 e2
      obtain ⟨⟨pg, us⟩, hst⟩ : ∃ s, s = stOf (fun _ => 0) l k := ⟨_, rfl⟩
      rw [← hst] at e1 e2 hx hok
      obtain ⟨T, hT⟩ : ∃ T, T = sumTo (fun _ => 0) l k := ⟨_, rfl⟩
      rw [← hT] at e1 hbd ⊢
      have E1 := Lib.hid e1; have E2 := Lib.hid e2; have EX := Lib.hid hX
      clear e1 e2 hst hT hxe hg h hX
      simp only at hx hok
      have hb := hok.bd
      have hnb := needN_bd us x hb.2.2
      have hrp : 0 ≤ refPg pg ∧ refPg pg ≤ 1024 := by unfold refPg; omega
      have hri : I64 (refPg pg) := show _ ∧ _ from by omega
      have q0 : wr.cell? ⟨X, 0, none⟩ = some (.int .i64 (refPg pg)) := cellOf hx 0 rfl
      have q1 : wr.cell? ⟨X, 1, none⟩ = some (.int .i64 (16 - us)) := cellOf hx 1 rfl
      have hneed : ∀ w, Calls Tryd.prog 9 #[.agg #[.int .i64 (refPg pg), .int .i64 (16 - us)], .int .i64 x] w fun e w' => e = .returned (.tuple #[.int .i64 (needN us x), .int .i64 (needE x)]) ∧ Ch No w w' :=
        fun w => ref10_Need w (refPg pg) us x hb.2.2 hri hi0
      have hplace : ∀ w, Calls Tryd.prog 11 #[.agg #[.int .i64 (refPg pg), .int .i64 (16 - us)], .int .i64 x, .int .i64 0] w fun e w' => e = .returned (.tuple #[refV (placeP pg us x 0), .int .i64 (placeA pg us x 0), .int .i64 (placeE us x 0)]) ∧ Ch No w w' :=
        fun w => ref10_Place w pg us x 0 hok hi0 i64z
      have hEv : needE x = 0 ∨ needE x ≠ 0 := by omega
      obtain ⟨N, hN⟩ : ∃ N, N = needN us x := ⟨_, rfl⟩
      obtain ⟨E, hE⟩ : ∃ E, E = needE x := ⟨_, rfl⟩
      rw [← hN] at hneed hnb
      rw [← hE] at hneed hEv
      have EN := Lib.hid hN; have EE := Lib.hid hE; clear hN hE
      obtain ⟨⟨pg', us'⟩, hst⟩ : ∃ s, s = placeP pg us x 0 := ⟨_, rfl⟩
      rw [← hst] at hplace
      rw [show refV (pg', us') = .agg #[.int .i64 (refPg pg'), .int .i64 (16 - us')] from rfl] at hplace
      have EST := Lib.hid hst; clear hst
      have W1 : IntKind.i64.wrap (T + N) = T + N := IntWalk.i64_in _ (by omega)
      have hS : ∀ w', Ch No wr w' → (w'.cell? ⟨X, 0, none⟩ = some (.int .i64 (refPg pg)) ∧ w'.cell? ⟨X, 1, none⟩ = some (.int .i64 (16 - us)) ∧ w'.cell? ⟨b, off + k, none⟩ = some (.int .i64 x)) ∧ Ch No wr w' :=
        fun w' h' => ⟨⟨h'.cell q0 (fun q => q), h'.cell q1 (fun q => q), h'.cell d0 (fun q => q)⟩, h'⟩
      have hH := hS _ (Ch.refl No wr).drew
      rcases hEv with rfl | hne
      · go_wp2_with fail
        go_region_held3 (fun w' : World => (w'.cell? ⟨X, 0, none⟩ = some (.int .i64 (refPg pg)) ∧ w'.cell? ⟨X, 1, none⟩ = some (.int .i64 (16 - us)) ∧ w'.cell? ⟨b, off + k, none⟩ = some (.int .i64 x)) ∧ Ch No wr w') (first | assumption | exact hS _ (by assumption) | fail) (first
          | (go_at_call 9; with_reducible refine (hneed _).mono ?_; rintro e w9 ⟨rfl, hc9⟩; have hH9 := hS _ (Ch.trans (And.right (by assumption)) hc9); (try dsimp only))
          | fail)
        have hH8 := Ch.trans (Ch.refl No wr) (And.right (by assumption))
        have p0 := hH8.cell q0 (fun q => q)
        have p1 := hH8.cell q1 (fun q => q)
        have p2 := hH8.cell d0 (fun q => q)
        have hx8 := hH8.heap hx (fun q => q)
        go_wp2_with fail
        go_region_with (first | (go_at_call 11; with_reducible refine (hplace _).mono ?_; rintro e w7 ⟨rfl, hc7⟩; have hx7 := Ch.heap hc7 hx8 (fun q => q); have y0 := cellOf hx7 0 rfl; have y1 := cellOf hx7 1 rfl; have z0 := freeOf hx7 0; have z1 := freeOf hx7 1; (try dsimp only)) | fail)
        all_goals
          go_wp2_with fail
          refine ⟨⟨k + 1, by omega, by go_num, by rw [E1.out, EN.out], ?_, ?_⟩, meas_lt (by omega)⟩
          · rw [E2.out, ← EST.out]
            exact heap_set (heap_set (i := 0) hx7 _) (i := 1) _
          · have hXX := EX.out
            exact Ch.setNew (Ch.setNew ((hc.trans hH8).drew.trans hc7) (p := ⟨X, 0, none⟩) (by simp only; omega) _) (p := ⟨X, 1, none⟩) (by simp only; omega) _
      · have hEq : (E == 0) = false := by simpa using hne
        go_wp2_with fail
        go_region_held3 (fun w' : World => (w'.cell? ⟨X, 0, none⟩ = some (.int .i64 (refPg pg)) ∧ w'.cell? ⟨X, 1, none⟩ = some (.int .i64 (16 - us)) ∧ w'.cell? ⟨b, off + k, none⟩ = some (.int .i64 x)) ∧ Ch No wr w') (first | assumption | exact hS _ (by assumption) | fail) (first
          | (go_at_call 9; with_reducible refine (hneed _).mono ?_; rintro e w9 ⟨rfl, hc9⟩; have hH9 := hS _ (Ch.trans (And.right (by assumption)) hc9); (try dsimp only))
          | fail)
        have hH8 := Ch.trans (Ch.refl No wr) (And.right (by assumption))
        have hx8 := hH8.heap hx (fun q => q)
        go_wp2_with fail
        go_roundw
        case rel =>
          have hb2 := placeP_bad (pg := pg) (us := us) (size := x) 0 (by rw [← EE.out]; exact hne)
          exact ⟨k + 1, by omega, by go_num, by rw [E1.out, hb2.2]; go_num, by rw [E2.out, hb2.1]; exact hx8, hc.trans hH8⟩
        case measure => exact meas_lt (by omega)
    · obtain rfl : k = l.length := by omega
      go_wp2_with fail
      go_ret
      exact ⟨rfl, hc⟩
end Go.Proofs.YtlmaflhfedbmdaaDoor

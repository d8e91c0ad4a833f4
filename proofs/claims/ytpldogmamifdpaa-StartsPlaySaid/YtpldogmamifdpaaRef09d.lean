/- The document's answer for layer 9: Drop. -/
import Derived.Test.YtpldogmamifdpaaRef09c
set_option linter.unusedVariables false
set_option linter.unusedSimpArgs false
namespace Go.Proofs.Ytpldogmamifdpaa
open Go Go.RowKit

theorem mem_take_succ {g : List Int} {k : Nat} {x y : Int} (h : k < g.length) (hy : y = g[k]) : decide (x ∈ g.take (k + 1)) = (decide (x ∈ g.take k) || (y == x)) := by
  rw [List.take_succ_eq_append_getElem h, ← hy]
  by_cases h1 : x ∈ g.take k
  · rw [decide_eq_true h1, decide_eq_true (List.mem_append_left _ h1)]; rfl
  · rw [decide_eq_false h1, Bool.false_or]
    by_cases h2 : y = x
    · rw [decide_eq_true (List.mem_append_right _ (List.mem_singleton.2 h2.symm))]; simp [h2]
    · rw [decide_eq_false (fun q => (List.mem_append.1 q).elim h1 (fun q => h2 (List.mem_singleton.1 q).symm))]; simp [h2]

theorem drop_done (F G : Nat → Prop) (w w2 w10 : World) (A : Option Addr) (C : Nat) (W : Int) (l M : List Int) (m n : Nat) (hn : M.length = n) (ho : OwnR (intRp .i64) w2.heap.size 3 G w10 (.slice A n C) M) (hGF : ∀ k, F k → G k) (hG0 : G w.heap.size) (hG1 : G (w.heap.size + 1 + 1)) (hF2 : ∀ k, G k → k < w2.heap.size) (hw2 : Ch No w w10) (f q : Int) (hM : M = l.filter fun y => !inP f q y) (hm : m = (l.filter (inP f q)).length) (u0 u1 X : Value) :
    ∃ a' c', Ending.returned (.tuple #[.agg #[.slice A n C, .int .i64 W], .int .i64 m]) = Ending.returned (.tuple #[stV a' (l.filter fun y => !inP f q y).length c' W, .int .i64 (l.filter (inP f q)).length]) ∧ Is9 F (((w10.setCell ⟨w.heap.size, 0, none⟩ X).setCell ⟨w.heap.size + 1 + 1, 0, none⟩ u0).setCell ⟨w.heap.size + 1 + 1, 1, none⟩ u1) a' c' (l.filter fun y => !inP f q y) ∧ Ch No w (((w10.setCell ⟨w.heap.size, 0, none⟩ X).setCell ⟨w.heap.size + 1 + 1, 0, none⟩ u0).setCell ⟨w.heap.size + 1 + 1, 1, none⟩ u1) := by
  have hG : Ch G w10 (((w10.setCell ⟨w.heap.size, 0, none⟩ X).setCell ⟨w.heap.size + 1 + 1, 0, none⟩ u0).setCell ⟨w.heap.size + 1 + 1, 1, none⟩ u1) := (((Ch.refl G w10).setIn (p := ⟨w.heap.size, 0, none⟩) hG0 X).setIn (p := ⟨w.heap.size + 1 + 1, 0, none⟩) hG1 u0).setIn (p := ⟨w.heap.size + 1 + 1, 1, none⟩) hG1 u1
  have hN : Ch No w (((w10.setCell ⟨w.heap.size, 0, none⟩ X).setCell ⟨w.heap.size + 1 + 1, 0, none⟩ u0).setCell ⟨w.heap.size + 1 + 1, 1, none⟩ u1) := ((hw2.setNew (p := ⟨w.heap.size, 0, none⟩) (Nat.le_refl _) X).setNew (p := ⟨w.heap.size + 1 + 1, 0, none⟩) (by simp; omega) u0).setNew (p := ⟨w.heap.size + 1 + 1, 1, none⟩) (by simp; omega) u1
  obtain ⟨a', c', hv, hs⟩ := (ho.ch hG (fun _ q => q) hF2).sl hF2
  rw [hn] at hv
  cases hv
  subst hM
  subst hm
  exact ⟨A, C, by rw [hn]; rfl, hs.more (fun k hk => .inl (hGF k hk)), hN⟩

set_option maxRecDepth 100000 in
set_option maxHeartbeats 2000000 in
theorem ref09_Drop (F : Nat → Prop) (w : World) (a : Option Addr) (c : Nat) (l : List Int) (W f n : Int) (h : Is9 F w a c l) (hl : l.length ≤ 100000) (hb : ∀ y ∈ l, 0 ≤ y ∧ y ≤ 16384) (hF : ∀ k, F k → k < w.heap.size) (hf : I64 f) (hn : I64 n) :
    Calls Try.prog 34 #[stV a l.length c W, .agg #[.int .i64 f, .int .i64 n]] w fun e w' => ∃ a' c', e = .returned (.tuple #[stV a' (l.filter fun y => !inP f n y).length c' W, .int .i64 (l.filter (inP f n)).length]) ∧ Is9 F w' a' c' (l.filter fun y => !inP f n y) ∧ Ch No w w' := by
  obtain ⟨w1, hw1⟩ : ∃ z, z = ((w.alloc (.cells #[.slice a l.length c, .int .i64 W] 63)).alloc (.cells #[.int .i64 f, .int .i64 n] 30)).alloc (.cells #[.slice none 0 0, .int .i64 0] 63) := ⟨_, rfl⟩
  have hc1 : Ch No w w1 := by rw [hw1]; exact (((Ch.refl _ _).alloc _).alloc _).alloc _
  have hs1 : w1.heap.size = w.heap.size + 1 + 1 + 1 := by rw [hw1]; simp
  have kb : w1.heap[w.heap.size]? = some (.cells #[.slice a l.length c, .int .i64 W] 63 (0, 0)) := by
    rw [hw1]
    exact (((Ch.refl No _).alloc _).alloc _).heap (World.alloc_heap_new _ _) (fun q => q)
  have kr : w1.heap[w.heap.size + 1]? = some (.cells #[.int .i64 f, .int .i64 n] 30 (0, 0)) := by
    rw [hw1]
    have := World.alloc_heap_new (w.alloc (.cells #[.slice a l.length c, .int .i64 W] 63)) (.cells #[.int .i64 f, .int .i64 n] 30)
    rw [World.size_alloc] at this
    exact ((Ch.refl No _).alloc _).heap this (fun q => q)
  have k0 : w1.heap[w.heap.size + 1 + 1]? = some (.cells #[.slice none 0 0, .int .i64 0] 63 (0, 0)) := by
    rw [hw1]
    have := World.alloc_heap_new ((w.alloc (.cells #[.slice a l.length c, .int .i64 W] 63)).alloc (.cells #[.int .i64 f, .int .i64 n] 30)) (.cells #[.slice none 0 0, .int .i64 0] 63)
    simp only [World.size_alloc] at this
    exact this
  have c0 := cellOf kb 0 rfl
  have c1 := cellOf kb 1 rfl
  have d0 := cellOf kr 0 rfl
  have d1 := cellOf kr 1 rfl
  dsimp at c0 c1 d0 d1
  obtain ⟨G, hG⟩ : ∃ G : Nat → Prop, G = fun k => F k ∨ w.heap.size = k ∨ w.heap.size + 1 + 1 = k := ⟨_, rfl⟩
  have hGF : ∀ k, F k → G k := fun k hk => by rw [hG]; exact .inl hk
  have hG0 : G w.heap.size := by rw [hG]; exact .inr (.inl rfl)
  have hG1 : G (w.heap.size + 1 + 1) := by rw [hG]; exact .inr (.inr rfl)
  have hl1 : Is9 G w1 a c l := (h.more (F' := G) (fun k hk => by rw [hG] at hk; rcases hk with q | q | q <;> first | exact .inl q | exact .inr (by omega))).ch0 hc1
  have hF1 : ∀ k, G k → k < w1.heap.size := fun k hk => by rw [hG] at hk; rcases hk with q | q | q <;> first | omega | (have := hF k q; omega)
  clear hG
  have hIn := ref09_In G w1 a c l W f n hl1 hl hb hF1 hf hn
  have hgle : (l.filter (inP f n)).length ≤ l.length := List.length_filter_le _ _
  have hgm : ∀ y ∈ l, decide (y ∈ l.filter (inP f n)) = inP f n y := fun y hy => by
    cases hq : inP f n y with
    | true => exact decide_eq_true (List.mem_filter.2 ⟨hy, hq⟩)
    | false => exact decide_eq_false (fun q => by rw [(List.mem_filter.1 q).2] at hq; cases hq)
  unfold stV at hIn ⊢
  go_enter Try.func34, Try.ntmps34
  go_wp2_with fail
  rw [← hw1]
  with_reducible refine hIn.mono ?_
  rintro e w2 ⟨v, rfl, hv, hc2⟩
  obtain ⟨Ag, Cg, rfl, hg⟩ := hv.sl hF1
  obtain ⟨g, hgd⟩ : ∃ z, z = l.filter (inP f n) := ⟨_, rfl⟩
  have hmm := Lib.hid (show (l.filter (inP f n)).length = g.length by rw [hgd])
  rw [← hgd] at hg hgle hgm ⊢
  have HGM := Lib.hid hgm
  clear hw1 hIn hv hgm d0 d1 kr
  have HGD := Lib.hid hgd
  clear hgd
  have c0 := hc2.cell c0 (fun q => q)
  have c1 := hc2.cell c1 (fun q => q)
  have k0 := hc2.heap k0 (fun q => q)
  have kb := hc2.heap kb (fun q => q)
  have hl2 := hl1.ch0 hc2
  have hs2 := hc2.size
  have hw2 := hc1.trans hc2
  have hF2 : ∀ k, G k → k < w2.heap.size := fun k hk => by have := hF1 k hk; omega
  dsimp only
  go_wp2_with fail
  go_loopw [7, 8] (fun v i wr => ∃ k : Nat, k ≤ l.length ∧ i = .int .i64 k ∧ OwnR (intRp .i64) w2.heap.size 3 G wr v ((l.take k).filter fun y => !inP f n y) ∧ Ch No w2 wr) (fun _ i _ => l.length - (intOf i).toNat)
  case atStart => exact ⟨0, by omega, rfl, OwnR.lit0 (Nat.le_refl _), (Ch.refl _ _).alloc _⟩
  case round =>
    obtain ⟨k, hk, rfl, ho, hc⟩ := hrel
    have e0 := hc.cell c0 (fun q => q)
    by_cases hlt : k < l.length
    · obtain ⟨b, off, rfl, _, _, x0, ix⟩ := (hl2.ch0 hc).int_at k hlt
      obtain ⟨x, hx⟩ : ∃ x, x = l[k] := ⟨_, rfl⟩
      rw [← hx] at x0 ix
      have hxg := HGM.out x (by rw [hx]; exact List.getElem_mem hlt)
      have hft := fun hp => filt_t (P := fun y => !inP f n y) hlt hx hp
      have hff := fun hp => filt_f (P := fun y => !inP f n y) hlt hx hp
      have hle := filt_le (fun y => !inP f n y) l k
      obtain ⟨M, hM⟩ : ∃ z, z = (l.take k).filter fun y => !inP f n y := ⟨_, rfl⟩
      rw [← hM] at ho hle hft hff
      obtain ⟨p, hp⟩ : ∃ z, z = inP f n x := ⟨_, rfl⟩
      rw [← hp] at hxg hft hff
      have HXG := Lib.hid hxg
      have HFT := Lib.hid hft
      have HFF := Lib.hid hff
      clear hx hM hp hxg hft hff
      go_wp2_with fail
      go_loopw [9, 10] (fun v j wq => ∃ m : Nat, m ≤ g.length ∧ j = .int .i64 m ∧ v = .bool (decide (x ∈ g.take m)) ∧ Ch No wr wq) (fun _ j _ => g.length - (intOf j).toNat)
      case atStart => exact ⟨0, by omega, rfl, by simp, Ch.refl _ _⟩
      case round =>
        obtain ⟨m, hm, rfl, rfl, hcq⟩ := hrel
        have e0 := hcq.cell e0 (fun q => q)
        have x0 := hcq.cell x0 (fun q => q)
        by_cases hltm : m < g.length
        · obtain ⟨b2, off2, rfl, _, _, y0, _⟩ := (hg.ch0 (hc.trans hcq)).int_at m hltm
          obtain ⟨y, hy⟩ : ∃ y, y = g[m] := ⟨_, rfl⟩
          rw [← hy] at y0
          have hms := mem_take_succ (x := x) hltm hy
          cases hin : decide (x ∈ g.take m) with
          | true =>
            rw [hin, Bool.true_or] at hms
            have HMS := Lib.hid hms
            clear hms hin hy
            go_wp2_with fail
            go_quiet (fail)
            go_wp2_with fail
            go_roundw
            case rel => exact ⟨m + 1, by omega, by go_num, by rw [HMS.out], hcq.drewN _⟩
            case measure => exact meas_lt (by omega)
          | false =>
            rw [hin, Bool.false_or] at hms
            by_cases he : y = x
            · have e1 : (y == x) = true := by simp [he]
              rw [e1] at hms
              have HMS := Lib.hid hms
              clear hms hin hy he
              go_wp2_with fail
              go_quiet (fail)
              go_wp2_with fail
              go_roundw
              case rel => exact ⟨m + 1, by omega, by go_num, by rw [HMS.out], hcq.drewN _⟩
              case measure => exact meas_lt (by omega)
            · have e1 : (y == x) = false := by simp [he]
              rw [e1] at hms
              have HMS := Lib.hid hms
              clear hms hin hy he
              go_wp2_with fail
              go_quiet (fail)
              go_wp2_with fail
              go_roundw
              case rel => exact ⟨m + 1, by omega, by go_num, by rw [HMS.out], hcq.drewN _⟩
              case measure => exact meas_lt (by omega)
        · obtain rfl : m = g.length := by omega
          rw [List.take_length, HXG.out]
          have ho := ho.ch0 hcq
          have hc := hc.trans hcq
          cases p with
          | true =>
            have HE := Lib.hid (HFF.out rfl)
            clear HFT HFF
            go_wp2_with fail
            go_roundw
            case rel => exact ⟨k + 1, by omega, by go_num, by rw [HE.out]; exact ho, hc⟩
            case measure => exact meas_lt (by omega)
          | false =>
            have HE := Lib.hid (HFT.out rfl)
            clear HFT HFF
            go_wp2_with (at_builtin; go_loud (refine wpL_push rfl _ _ _ rfl w2.heap.size 3 (.int .i64 0) 1 8 Try.underlying44 infoI64 rfl (by decide) (intRp .i64) rfl G u7 M rfl ho [.int .i64 x] _ x 1 (by go_simp) ⟨rfl, ix⟩ hF2 (by omega) (by omega) hc.size ?_); intro v9 w9 ho9 hg9 _)
            go_roundw
            case rel => exact ⟨k + 1, by omega, by go_num, by rw [HE.out]; exact ho9, hg9 _ _ (Nat.le_refl _) hc⟩
            case measure => exact meas_lt (by omega)
    · obtain rfl : k = l.length := by omega
      rw [List.take_length] at ho
      obtain ⟨M, hM⟩ : ∃ z, z = l.filter fun y => !inP f n y := ⟨_, rfl⟩
      rw [← hM] at ho
      obtain ⟨A6, C6, hu, _⟩ := ho.sl hF2
      subst hu
      have HM := Lib.hid hM; clear hM
      have kb10 := hc.heap kb (fun q => q)
      have fb := freeOf kb10 0
      have b0 := cellOf kb10 0 rfl
      have st := heap_set (i := 0) kb10 (.slice A6 M.length C6)
      have s0 := cellOf st 0 rfl
      have s1 := cellOf st 1 rfl
      have hcS : Ch (One w.heap.size) w2 (wr.setCell ⟨w.heap.size, 0, none⟩ (.slice A6 M.length C6)) := Ch.setIn (F := One w.heap.size) (hc.mono (fun _ q => q.elim)) (p := ⟨w.heap.size, 0, none⟩) rfl _
      have hn1 : ¬ One w.heap.size (w.heap.size + 1 + 1) := fun q => by have : w.heap.size + 1 + 1 = w.heap.size := q; omega
      have kS := hcS.heap k0 hn1
      have f0 := freeOf kS 0
      have f1 := freeOf kS 1
      have q0 := cellOf kS 0 rfl
      have q1 := cellOf kS 1 rfl
      go_wp2_with fail
      have m := two_set (u0 := .slice A6 M.length C6) (u1 := .int .i64 W) kS
      have e0 := cellOf m 0 rfl
      have e1 := cellOf m 1 rfl
      refine bodyPost_ret (results_cell2 (v := .agg #[.slice A6 M.length C6, .int .i64 W]) rfl _ _ _ (by rfl) (by go_simp)) rfl ?_
      exact drop_done F G w w2 wr A6 C6 W l M _ _ rfl ho hGF hG0 hG1 hF2 (hw2.trans hc) f n HM.out hmm.out.symm _ _ _
end Go.Proofs.Ytpldogmamifdpaa

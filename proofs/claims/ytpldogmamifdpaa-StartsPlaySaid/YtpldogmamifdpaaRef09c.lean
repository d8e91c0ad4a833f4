/- The document's answer for layer 9: Put. -/
import Derived.Test.YtpldogmamifdpaaRef09b
set_option linter.unusedVariables false
set_option linter.unusedSimpArgs false
namespace Go.Proofs.Ytpldogmamifdpaa
open Go Go.RowKit

/-- What Put makes of a rising list. -/
def PutTo (l : List Int) (W i : Int) (l' : List Int) (E : Int) : Prop :=
  if i < 1 ∨ W ≤ i then l' = l ∧ E = 8 else if i ∈ l then l' = l ∧ E = 6 else E = 0 ∧ l'.Pairwise (· < ·) ∧ ∀ y, y ∈ l' ↔ y = i ∨ y ∈ l

theorem put_ins {l : List Int} {W i : Int} (h1 : ¬ (i < 1 ∨ W ≤ i)) (h2 : i ∉ l) (hs : l.Pairwise (· < ·)) (k : Nat) (hlo : ∀ y ∈ l.take k, y < i) (hhi : ∀ y ∈ l.drop k, i < y) : PutTo l W i (l.take k ++ [i] ++ l.drop k) 0 := by
  unfold PutTo
  rw [if_neg h1, if_neg h2]
  refine ⟨rfl, ?_, fun y => ?_⟩
  · rw [List.append_assoc, List.pairwise_append]
    have hs' := hs
    rw [← List.take_append_drop k l, List.pairwise_append] at hs'
    refine ⟨hs'.1, ?_, fun a ha b hb => ?_⟩
    · rw [List.singleton_append, List.pairwise_cons]
      exact ⟨hhi, hs'.2.1⟩
    · rw [List.singleton_append, List.mem_cons] at hb
      rcases hb with rfl | hb
      · exact hlo a ha
      · exact hs'.2.2 a ha b hb
  · conv => rhs; rw [← List.take_append_drop k l]
    simp only [List.mem_append, List.mem_singleton]
    constructor
    · rintro ((h | h) | h)
      · exact .inr (.inl h)
      · exact .inl h
      · exact .inr (.inr h)
    · rintro (h | h | h)
      · exact .inl (.inr h)
      · exact .inl (.inl h)
      · exact .inr h

theorem two_set {w : World} {B : Nat} {v0 v1 u0 u1 : Value} {T : TypeId} (k0 : w.heap[B]? = some (.cells #[v0, v1] T (0, 0))) : ((w.setCell ⟨B, 0, none⟩ u0).setCell ⟨B, 1, none⟩ u1).heap[B]? = some (.cells #[u0, u1] T (0, 0)) := heap_set (heap_set (i := 0) k0 u0) (i := 1) u1

theorem SlR.drop9 {F : Nat → Prop} {w : World} {b off c : Nat} {l : List Int} (h : SlR (intRp .i64) F w (some ⟨b, off, none⟩) c l) (k : Nat) (hk : k ≤ l.length) : SlR (intRp .i64) F w (some ⟨b, off + k, none⟩) (c - k) (l.drop k) := by
  have h1 := h.le
  have h2 := h.max
  refine ⟨by rw [List.length_drop]; omega, by omega, fun q => (by cases q), fun hl => ?_⟩
  have hl' : k < l.length := by
    rcases Nat.lt_or_ge k l.length with q | q
    · exact q
    · exact absurd (List.drop_eq_nil_of_le q) hl
  obtain ⟨b', off', ha, hb, hlt, hr⟩ := h.rd (by intro e; rw [e] at hl'; simp at hl')
  cases ha
  refine ⟨b, _, rfl, hb, hlt, fun i hi => ?_⟩
  rw [List.length_drop] at hi
  have := hr (k + i) (by omega)
  rw [Nat.add_mul, ← Nat.add_assoc, show k * (intRp .i64).n = k from Nat.mul_one k] at this
  rw [List.getElem_drop]
  exact this
/-- A slice from k on. -/
theorem SlR.tailA {F : Nat → Prop} {w : World} {a : Addr} {c : Nat} {l : List Int} (h : SlR (intRp .i64) F w (some a) c l) (k : Nat) (hk : k ≤ l.length) : SlR (intRp .i64) F w (some (a.add k)) (c - k) (l.drop k) := by
  have h1 := h.le
  have h2 := h.max
  refine ⟨by rw [List.length_drop]; omega, by omega, fun q => (by cases q), fun hl => ?_⟩
  have hl' : l ≠ [] := by rintro rfl; simp at hl
  obtain ⟨b, off, ha, _⟩ := h.rd hl'
  cases ha
  have := (SlR.drop9 h k hk).rd hl
  rw [Addr.add_lit]; exact this
theorem SlR.none0 {F : Nat → Prop} {w : World} {a : Addr} {c : Nat} (hc : c ≤ maxLen) : SlR (intRp .i64) F w (some a) c [] := ⟨Nat.zero_le _, hc, fun q => (by cases q), fun q => absurd rfl q⟩

theorem SlR.beside2 {F : Nat → Prop} {w2 w9 : World} {a : Option Addr} {c : Nat} {l : List Int} (h : SlR (intRp .i64) F w2 a c l) (hc : Ch No w2 w9) (v : Value) (hv : ∀ k, v.ownBlock = some k → w2.heap.size ≤ k) : SlR (intRp .i64) (fun k => F k ∨ v.ownBlock = some k) w9 a c l :=
  (h.beside v hv).ch0 hc
theorem put_done (F G : Nat → Prop) (w w2 w10 : World) (A : Option Addr) (C : Nat) (W i : Int) (l M : List Int) (k n : Nat) (hn : (M ++ [i] ++ l.drop k).length = n) (ho : OwnR (intRp .i64) w2.heap.size 3 G w10 (.slice A n C) (M ++ [i] ++ l.drop k)) (hGF : ∀ k, F k → G k) (hG0 : G w.heap.size) (hG1 : G (w.heap.size + 1)) (hF2 : ∀ k, G k → k < w2.heap.size) (hw2 : Ch No w w2) (hc : Ch No w2 w10) (hM : M = l.take k) (hp : PutTo l W i (l.take k ++ [i] ++ l.drop k) 0) (u0 u1 X : Value) :
    ∃ a' c' l' E, Ending.returned (.tuple #[.agg #[.slice A n C, .int .i64 W], .int .i64 0]) = Ending.returned (.tuple #[stV a' l'.length c' W, .int .i64 E]) ∧ Is9 F (((w10.setCell ⟨w.heap.size, 0, none⟩ X).setCell ⟨w.heap.size + 1, 0, none⟩ u0).setCell ⟨w.heap.size + 1, 1, none⟩ u1) a' c' l' ∧ PutTo l W i l' E ∧ Ch No w (((w10.setCell ⟨w.heap.size, 0, none⟩ X).setCell ⟨w.heap.size + 1, 0, none⟩ u0).setCell ⟨w.heap.size + 1, 1, none⟩ u1) := by
  have hG : Ch G w10 (((w10.setCell ⟨w.heap.size, 0, none⟩ X).setCell ⟨w.heap.size + 1, 0, none⟩ u0).setCell ⟨w.heap.size + 1, 1, none⟩ u1) := (((Ch.refl G w10).setIn (p := ⟨w.heap.size, 0, none⟩) hG0 X).setIn (p := ⟨w.heap.size + 1, 0, none⟩) hG1 u0).setIn (p := ⟨w.heap.size + 1, 1, none⟩) hG1 u1
  have hN : Ch No w (((w10.setCell ⟨w.heap.size, 0, none⟩ X).setCell ⟨w.heap.size + 1, 0, none⟩ u0).setCell ⟨w.heap.size + 1, 1, none⟩ u1) := (((hw2.trans hc).setNew (p := ⟨w.heap.size, 0, none⟩) (Nat.le_refl _) X).setNew (p := ⟨w.heap.size + 1, 0, none⟩) (by simp) u0).setNew (p := ⟨w.heap.size + 1, 1, none⟩) (by simp) u1
  obtain ⟨a', c', hv, hs⟩ := (ho.ch hG (fun _ q => q) hF2).sl hF2
  rw [hn] at hv
  cases hv
  subst hM
  exact ⟨A, C, _, 0, by rw [hn]; rfl, hs.more (fun k hk => .inl (hGF k hk)), hp, hN⟩

theorem putTo8 {l : List Int} {W i : Int} (h : i < 1 ∨ W ≤ i) : PutTo l W i l 8 := by unfold PutTo; rw [if_pos h]; exact ⟨rfl, rfl⟩
theorem putTo6 {l : List Int} {W i : Int} (h : ¬ (i < 1 ∨ W ≤ i)) (h2 : i ∈ l) : PutTo l W i l 6 := by unfold PutTo; rw [if_neg h, if_pos h2]; exact ⟨rfl, rfl⟩

set_option maxRecDepth 100000 in
set_option maxHeartbeats 2000000 in
theorem ref09_Put (F : Nat → Prop) (w : World) (a : Option Addr) (c : Nat) (l : List Int) (W i : Int) (h : Is9 F w a c l) (hl : l.length ≤ 100000) (hi : I64 i) (hF : ∀ k, F k → k < w.heap.size) (hs : l.Pairwise (· < ·)) :
    Calls Try.prog 35 #[stV a l.length c W, .int .i64 i] w fun e w' => ∃ a' c' l' E, e = .returned (.tuple #[stV a' l'.length c' W, .int .i64 E]) ∧ Is9 F w' a' c' l' ∧ PutTo l W i l' E ∧ Ch No w w' := by
  unfold stV
  have hi' := hi.bd
  obtain ⟨w1, hw1⟩ : ∃ z, z = (w.alloc (.cells #[.slice a l.length c, .int .i64 W] 63)).alloc (.cells #[.slice none 0 0, .int .i64 0] 63) := ⟨_, rfl⟩
  have hc1 : Ch No w w1 := by rw [hw1]; exact ((Ch.refl _ _).alloc _).alloc _
  have hl1 := h.ch0 hc1
  have hs1 : w1.heap.size = w.heap.size + 1 + 1 := by rw [hw1]; simp
  have c0 : w1.cell? ⟨w.heap.size, 0, none⟩ = some (.slice a l.length c) ∧ w1.cell? ⟨w.heap.size, 1, none⟩ = some (.int .i64 W) := by
    rw [hw1]
    exact ⟨((Ch.refl No _).alloc _).cell (cellOf (World.alloc_heap_new _ _) 0 rfl) (fun q => q), ((Ch.refl No _).alloc _).cell (cellOf (World.alloc_heap_new _ _) 1 rfl) (fun q => q)⟩
  have k0 : w1.heap[w.heap.size + 1]? = some (.cells #[.slice none 0 0, .int .i64 0] 63 (0, 0)) := by
    rw [hw1]
    have := World.alloc_heap_new (w.alloc (.cells #[.slice a l.length c, .int .i64 W] 63)) (.cells #[.slice none 0 0, .int .i64 0] 63)
    rw [World.size_alloc] at this
    exact this
  have kb : w1.heap[w.heap.size]? = some (.cells #[.slice a l.length c, .int .i64 W] 63 (0, 0)) := by
    rw [hw1]
    exact ((Ch.refl No _).alloc _).heap (World.alloc_heap_new _ _) (fun q => q)
  obtain ⟨c0, c1⟩ := c0
  by_cases h1 : i < 1
  · have b1 : decide (i < 1) = true := decide_eq_true h1
    have hp := putTo8 (l := l) (W := W) (i := i) (Or.inl h1)
    go_enter Try.func35, Try.ntmps35
    go_wp2_with fail
    have m := World.alloc_heap_new (w.alloc (.cells #[.slice a l.length c, .int .i64 W] 63)) (.cells #[.slice a l.length c, .int .i64 W] 63)
    rw [World.size_alloc] at m
    have e0 := cellOf m 0 rfl
    have e1 := cellOf m 1 rfl
    refine bodyPost_ret (results_cell2 (v := .agg #[.slice a l.length c, .int .i64 W]) rfl _ _ _ (by rfl) (by go_simp)) rfl ?_
    have hcw := (((Ch.refl No w).alloc (.cells #[.slice a l.length c, .int .i64 W] 63)).alloc (.cells #[.slice a l.length c, .int .i64 W] 63))
    exact ⟨a, c, l, 8, rfl, h.ch0 hcw, hp, hcw⟩
  · have b1 : decide (i < 1) = false := decide_eq_false h1
    by_cases h2 : W ≤ i
    · have b2 : decide (i ≥ W) = true := decide_eq_true h2
      have hp := putTo8 (l := l) (W := W) (i := i) (Or.inr h2)
      go_enter Try.func35, Try.ntmps35
      go_wp2_with fail
      have m := World.alloc_heap_new (w.alloc (.cells #[.slice a l.length c, .int .i64 W] 63)) (.cells #[.slice a l.length c, .int .i64 W] 63)
      rw [World.size_alloc] at m
      have e0 := cellOf m 0 rfl
      have e1 := cellOf m 1 rfl
      refine bodyPost_ret (results_cell2 (v := .agg #[.slice a l.length c, .int .i64 W]) rfl _ _ _ (by rfl) (by go_simp)) rfl ?_
      have hcw := (((Ch.refl No w).alloc (.cells #[.slice a l.length c, .int .i64 W] 63)).alloc (.cells #[.slice a l.length c, .int .i64 W] 63))
      exact ⟨a, c, l, 8, rfl, h.ch0 hcw, hp, hcw⟩
    · have b2 : decide (i ≥ W) = false := decide_eq_false h2
      have hno : ¬ (i < 1 ∨ W ≤ i) := by omega
      clear h1 h2
      have hIs := ref09_Is F w1 a c l W i hl1 hl
      unfold stV at hIs
      by_cases h3 : i ∈ l
      · rw [decide_eq_true h3] at hIs
        have hp := putTo6 hno h3
        clear h3 hno
        go_enter Try.func35, Try.ntmps35
        go_wp2_with fail
        rw [← hw1]
        with_reducible refine hIs.mono ?_
        rintro e w2 ⟨rfl, hc2⟩
        clear hw1 hIs
        have c0 := hc2.cell c0 (fun q => q)
        have c1 := hc2.cell c1 (fun q => q)
        have k0 := hc2.heap k0 (fun q => q)
        have f0 := freeOf k0 0
        have f1 := freeOf k0 1
        have r0 := cellOf k0 0 rfl
        have r1 := cellOf k0 1 rfl
        dsimp only
        go_wp2_with fail
        have m := two_set (u0 := .slice a l.length c) (u1 := .int .i64 W) k0
        have e0 := cellOf m 0 rfl
        have e1 := cellOf m 1 rfl
        refine bodyPost_ret (results_cell2 (v := .agg #[.slice a l.length c, .int .i64 W]) rfl _ _ _ (by rfl) (by go_simp)) rfl ?_
        have hcw : Ch No w ((w2.setCell ⟨w.heap.size + 1, 0, none⟩ (.slice a l.length c)).setCell ⟨w.heap.size + 1, 1, none⟩ (.int .i64 W)) := ((hc1.trans hc2).setNew (p := ⟨w.heap.size + 1, 0, none⟩) (by simp) _).setNew (p := ⟨w.heap.size + 1, 1, none⟩) (by simp) _
        exact ⟨a, c, l, 6, rfl, h.ch0 hcw, hp, hcw⟩
      · rw [decide_eq_false h3] at hIs
        have hins := fun k hlo hhi => put_ins (k := k) hno h3 hs hlo hhi
        have hne : ∀ j, ∀ hj : j < l.length, l[j] ≠ i := fun j hj e => h3 (e ▸ List.getElem_mem hj)
        clear h3 hno
        go_enter Try.func35, Try.ntmps35
        go_wp2_with fail
        rw [← hw1]
        with_reducible refine hIs.mono ?_
        rintro e w2 ⟨rfl, hc2⟩
        clear hw1 hIs
        have c0 := hc2.cell c0 (fun q => q)
        have c1 := hc2.cell c1 (fun q => q)
        have k0 := hc2.heap k0 (fun q => q)
        have kb := hc2.heap kb (fun q => q)
        have hs2 := hc2.size
        have hw2 := hc1.trans hc2
        obtain ⟨G, hG⟩ : ∃ G : Nat → Prop, G = fun k => F k ∨ w.heap.size = k ∨ w.heap.size + 1 = k := ⟨_, rfl⟩
        have hGF : ∀ k, F k → G k := fun k hk => by rw [hG]; exact .inl hk
        have hG0 : G w.heap.size := by rw [hG]; exact .inr (.inl rfl)
        have hG1 : G (w.heap.size + 1) := by rw [hG]; exact .inr (.inr rfl)
        have hl2 : Is9 G w2 a c l := (h.more (F' := G) (fun k hk => by rw [hG] at hk; rcases hk with q | q | q <;> first | exact .inl q | exact .inr (by omega))).ch0 hw2
        have hF2 : ∀ k, G k → k < w2.heap.size := fun k hk => by rw [hG] at hk; rcases hk with q | q | q <;> first | omega | (have := hF k q; omega)
        clear hG
        dsimp only
        go_wp2_with fail
        go_loopw [6, 7] (fun v q wr => ∃ k : Nat, k ≤ l.length ∧ q = .int .i64 k ∧ OwnR (intRp .i64) w2.heap.size 3 G wr v (l.take k) ∧ (∀ y ∈ l.take k, y < i) ∧ Ch No w2 wr) (fun _ q _ => l.length - (intOf q).toNat)
        case atStart => exact ⟨0, by omega, rfl, OwnR.lit0 (Nat.le_refl _), by simp, (Ch.refl _ _).alloc _⟩
        case round =>
          obtain ⟨k, hk, rfl, ho, hlo, hc⟩ := hrel
          have d0 := hc.cell c0 (fun q => q)
          have HLO := Lib.hid hlo; clear hlo
          by_cases hgo : ∃ hlt : k < l.length, l[k] < i
          · obtain ⟨hlt, hx1⟩ := hgo
            obtain ⟨b, off, rfl, _, _, c2, ix⟩ := (hl2.ch0 hc).int_at k hlt
            have htk := List.take_succ_eq_append_getElem hlt
            obtain ⟨x, hx⟩ : ∃ x, x = l[k] := ⟨_, rfl⟩
            rw [← hx] at c2 hx1 htk ix
            have b3 : decide (x < i) = true := decide_eq_true hx1
            have hlen : (l.take k).length = k := by simp; omega
            obtain ⟨M, hM⟩ : ∃ z, z = l.take k := ⟨_, rfl⟩
            rw [← hM] at ho htk hlen
            have HM := Lib.hid hM
            have HX := Lib.hid hx1
            have HT := Lib.hid htk
            have HL := Lib.hid hlen
            clear hx hx1 htk hM hlen
            go_wp2_with (at_builtin; go_loud (refine wpL_push rfl _ _ _ rfl w2.heap.size 3 (.int .i64 0) 1 8 Try.underlying44 infoI64 rfl (by decide) (intRp .i64) rfl G u6 M rfl ho [.int .i64 x] _ x 1 (by go_simp) ⟨rfl, ix⟩ hF2 (by rw [HL.out]; omega) (by rw [HL.out]; omega) hc.size ?_); intro v9 w9 ho9 hg9 _)
            go_roundw
            case rel => exact ⟨k + 1, by omega, by go_num, by rw [HT.out]; exact ho9, fun y hy => by
              rw [HT.out] at hy
              rcases List.mem_append.1 hy with h | h
              · exact HLO.out y (by rw [← HM.out]; exact h)
              · rw [List.mem_singleton.1 h]; exact HX.out, hg9 _ _ (Nat.le_refl _) hc⟩
            case measure => exact meas_lt (by omega)
          · have ht : (∀ y ∈ l.drop k, i < y) ∧ (k = l.length ∨ ∃ hlt : k < l.length, i < l[k]) := by
              by_cases hlt : k < l.length
              · have hx : i < l[k] := by
                  have := hne k hlt
                  have h2 : ¬ (l[k] < i) := fun q => hgo ⟨hlt, q⟩
                  omega
                refine ⟨fun y hy => ?_, .inr ⟨hlt, hx⟩⟩
                rw [List.drop_eq_getElem_cons hlt, List.mem_cons] at hy
                rcases hy with rfl | hy
                · exact hx
                · have hs' := hs
                  rw [← List.take_append_drop (k + 1) l, List.pairwise_append] at hs'
                  have : l[k] < y := hs'.2.2 _ (by rw [List.take_succ_eq_append_getElem hlt]; exact List.mem_append_right _ (List.mem_singleton.2 rfl)) y hy
                  omega
              · refine ⟨fun y hy => ?_, .inl (by omega)⟩
                rw [List.drop_eq_nil_of_le (by omega)] at hy
                simp at hy
            obtain ⟨hhi, hend⟩ := ht
            have hres := hins k HLO.out hhi
            have HR := Lib.hid hres
            have hlen : (l.take k).length = k := by simp; omega
            have hld : (l.drop k).length = l.length - k := by simp
            have hl3 := hl2.ch0 hc
            have dW := hc.cell c1 (fun q => q)
            have kb3 := hc.heap kb (fun q => q)
            have k03 := hc.heap k0 (fun q => q)
            have hsz3 := hc.size
            clear hhi hres hins hne hgo
            obtain ⟨M, hM⟩ : ∃ z, z = l.take k := ⟨_, rfl⟩
            rw [← hM] at ho hlen
            have HM := Lib.hid hM; clear hM
            have kb3 := hc.heap kb (fun q => q)
            obtain ⟨A6, C6, hu, _⟩ := ho.sl hF2
            rw [hlen] at hu
            subst hu
            have HL := Lib.hid hlen; clear hlen
            have HL2 := Lib.hid (show (M ++ [i]).length = k + 1 by rw [List.length_append, HL.out]; rfl)
            have HLd := Lib.hid hld; clear hld
            have HL3 := Lib.hid (show (M ++ [i] ++ l.drop k).length = l.length + 1 by rw [List.length_append, HL2.out, HLd.out]; omega)
            have hn1 : ¬ One w.heap.size (w.heap.size + 1) := fun q => by have : w.heap.size + 1 = w.heap.size := q; omega
            have hcmax := hl2.max
            cases a with
            | none =>
              have hc0 := hl2.nil rfl
              have hle0 := hl2.le
              obtain rfl : l = [] := List.eq_nil_of_length_eq_zero (by omega)
              obtain rfl : k = 0 := by simpa using hk
              subst hc0
              rw [List.drop_nil] at HLd HL3 HR
              go_wp2_with (at_builtin; (first
                | (refine wpL_push rfl _ _ _ rfl w2.heap.size 3 (.int .i64 0) 1 8 Try.underlying44 infoI64 rfl (by decide) (intRp .i64) rfl G (.slice A6 _ C6) M rfl ho [.int .i64 i] _ i 1 (by go_simp) ⟨rfl, hi⟩ hF2 (by rw [HL.out]; omega) (by rw [HL.out]; omega) hc.size ?_; intro v9 w9 ho9 hg9 _; obtain ⟨A9, C9, hv9, _⟩ := ho9.sl hF2; rw [HL2.out] at hv9; subst hv9; have hc9 := hg9 _ _ (Nat.le_refl _) hc; have d9 := hc9.cell c0 (fun q => q); have dW9 := hc9.cell c1 (fun q => q))
                | (refine wpL_appendR rfl _ _ _ rfl w2.heap.size 3 (.int .i64 0) 1 8 Try.underlying44 infoI64 rfl (by decide) (intRp .i64) rfl G (.slice A9 _ C9) (M ++ [i]) rfl ho9 none 0 [] (by go_simp) (SlR.nilR _ _ _) (by rw [HL2.out]; simp) (by rw [HL2.out]; simp) hc9.size ?_; intro v10 w10 ho10 hg10 _; obtain ⟨A10, C10, hv10, _⟩ := ho10.sl hF2; rw [HL3.out] at hv10; subst hv10; have hc10 := hg10 _ _ (Nat.le_refl _) hc9; have kb10 := hc10.heap kb (fun q => q); have fb := freeOf kb10 0; have b0 := cellOf kb10 0 rfl; have st := heap_set (i := 0) kb10 (.slice A10 (0 + 1) C10); have s0 := cellOf st 0 rfl; have s1 := cellOf st 1 rfl; have hcS : Ch (One w.heap.size) w2 (w10.setCell ⟨w.heap.size, 0, none⟩ (.slice A10 (0 + 1) C10)) := Ch.setIn (F := One w.heap.size) (hc10.mono (fun _ q => q.elim)) (p := ⟨w.heap.size, 0, none⟩) rfl _; have kS := hcS.heap k0 hn1; have f0 := freeOf kS 0; have f1 := freeOf kS 1; have q0 := cellOf kS 0 rfl; have q1 := cellOf kS 1 rfl)))
              have m := two_set (u0 := .slice A10 (0 + 1) C10) (u1 := .int .i64 W) kS
              have e0 := cellOf m 0 rfl
              have e1 := cellOf m 1 rfl
              refine bodyPost_ret (results_cell2 (v := .agg #[.slice A10 (0 + 1) C10, .int .i64 W]) rfl _ _ _ (by rfl) (by go_simp)) rfl ?_
              exact put_done F G w w2 w10 A10 C10 W i [] M 0 _ (by rw [List.drop_nil]; exact HL3.out) (by rw [List.drop_nil]; exact ho10) hGF hG0 hG1 hF2 hw2 hc10 HM.out (by rw [List.drop_nil]; exact HR.out) _ _ _
            | some a =>
              by_cases hck : c = k
              · have hle0 := hl2.le
                have hke : k = l.length := by omega
                have b3 : ¬ (k < l.length) := by omega
                have hdn : l.drop k = [] := List.drop_eq_nil_of_le (by omega)
                have HDN := Lib.hid hdn
                subst hck
                have hd0 : l.length - c = 0 := by omega
                clear hke hle0 hdn
                go_wp2_with (at_builtin; (first
                  | (refine wpL_push rfl _ _ _ rfl w2.heap.size 3 (.int .i64 0) 1 8 Try.underlying44 infoI64 rfl (by decide) (intRp .i64) rfl G (.slice A6 _ C6) M rfl ho [.int .i64 i] _ i 1 (by go_simp) ⟨rfl, hi⟩ hF2 (by rw [HL.out]; omega) (by rw [HL.out]; omega) hc.size ?_; intro v9 w9 ho9 hg9 _; obtain ⟨A9, C9, hv9, _⟩ := ho9.sl hF2; rw [HL2.out] at hv9; subst hv9; have hc9 := hg9 _ _ (Nat.le_refl _) hc; have d9 := hc9.cell c0 (fun q => q); have dW9 := hc9.cell c1 (fun q => q))
                  | (refine wpL_appendR rfl _ _ _ rfl w2.heap.size 3 (.int .i64 0) 1 8 Try.underlying44 infoI64 rfl (by decide) (intRp .i64) rfl G (.slice A9 _ C9) (M ++ [i]) rfl ho9 (some a) 0 (l.drop c) (by go_simp) (by rw [HDN.out]; exact SlR.none0 (Nat.zero_le _)) (by rw [HL2.out, HLd.out]; omega) (by rw [HL2.out, HLd.out]; omega) hc9.size ?_; intro v10 w10 ho10 hg10 _; obtain ⟨A10, C10, hv10, _⟩ := ho10.sl hF2; rw [HL3.out] at hv10; subst hv10; have hc10 := hg10 _ _ (Nat.le_refl _) hc9; have kb10 := hc10.heap kb (fun q => q); have fb := freeOf kb10 0; have b0 := cellOf kb10 0 rfl; have st := heap_set (i := 0) kb10 (.slice A10 (l.length + 1) C10); have s0 := cellOf st 0 rfl; have s1 := cellOf st 1 rfl; have hcS : Ch (One w.heap.size) w2 (w10.setCell ⟨w.heap.size, 0, none⟩ (.slice A10 (l.length + 1) C10)) := Ch.setIn (F := One w.heap.size) (hc10.mono (fun _ q => q.elim)) (p := ⟨w.heap.size, 0, none⟩) rfl _; have kS := hcS.heap k0 hn1; have f0 := freeOf kS 0; have f1 := freeOf kS 1; have q0 := cellOf kS 0 rfl; have q1 := cellOf kS 1 rfl)))
                have m := two_set (u0 := .slice A10 (l.length + 1) C10) (u1 := .int .i64 W) kS
                have e0 := cellOf m 0 rfl
                have e1 := cellOf m 1 rfl
                refine bodyPost_ret (results_cell2 (v := .agg #[.slice A10 (l.length + 1) C10, .int .i64 W]) rfl _ _ _ (by rfl) (by go_simp)) rfl ?_
                exact put_done F G w w2 w10 A10 C10 W i l M _ _ HL3.out ho10 hGF hG0 hG1 hF2 hw2 hc10 HM.out HR.out _ _ _
              · rcases hend with hke | ⟨hlt, hx⟩
                · have b3 : ¬ (k < l.length) := by omega
                  have HK := Lib.hid hke; clear hke
                  go_wp2_with (at_builtin; (first
                    | (refine wpL_push rfl _ _ _ rfl w2.heap.size 3 (.int .i64 0) 1 8 Try.underlying44 infoI64 rfl (by decide) (intRp .i64) rfl G (.slice A6 _ C6) M rfl ho [.int .i64 i] _ i 1 (by go_simp) ⟨rfl, hi⟩ hF2 (by rw [HL.out]; omega) (by rw [HL.out]; omega) hc.size ?_; intro v9 w9 ho9 hg9 _; obtain ⟨A9, C9, hv9, _⟩ := ho9.sl hF2; rw [HL2.out] at hv9; subst hv9; have hc9 := hg9 _ _ (Nat.le_refl _) hc; have d9 := hc9.cell c0 (fun q => q); have dW9 := hc9.cell c1 (fun q => q))
                    | (refine wpL_appendR rfl _ _ _ rfl w2.heap.size 3 (.int .i64 0) 1 8 Try.underlying44 infoI64 rfl (by decide) (intRp .i64) rfl G (.slice A9 _ C9) (M ++ [i]) rfl ho9 _ _ (l.drop k) (by go_simp) ((hl2.tailA k hk).beside2 hc9 _ (fun z hz => (ho9.blk z hz).1)) (by rw [HL2.out, HLd.out]; omega) (by rw [HL2.out, HLd.out]; omega) hc9.size ?_; intro v10 w10 ho10 hg10 _; obtain ⟨A10, C10, hv10, _⟩ := ho10.sl hF2; rw [HL3.out] at hv10; subst hv10; have hc10 := hg10 _ _ (Nat.le_refl _) hc9; have kb10 := hc10.heap kb (fun q => q); have fb := freeOf kb10 0; have b0 := cellOf kb10 0 rfl; have st := heap_set (i := 0) kb10 (.slice A10 (l.length + 1) C10); have s0 := cellOf st 0 rfl; have s1 := cellOf st 1 rfl; have hcS : Ch (One w.heap.size) w2 (w10.setCell ⟨w.heap.size, 0, none⟩ (.slice A10 (l.length + 1) C10)) := Ch.setIn (F := One w.heap.size) (hc10.mono (fun _ q => q.elim)) (p := ⟨w.heap.size, 0, none⟩) rfl _; have kS := hcS.heap k0 hn1; have f0 := freeOf kS 0; have f1 := freeOf kS 1; have q0 := cellOf kS 0 rfl; have q1 := cellOf kS 1 rfl)))
                  have m := two_set (u0 := .slice A10 (l.length + 1) C10) (u1 := .int .i64 W) kS
                  have e0 := cellOf m 0 rfl
                  have e1 := cellOf m 1 rfl
                  refine bodyPost_ret (results_cell2 (v := .agg #[.slice A10 (l.length + 1) C10, .int .i64 W]) rfl _ _ _ (by rfl) (by go_simp)) rfl ?_
                  exact put_done F G w w2 w10 A10 C10 W i l M _ _ HL3.out ho10 hGF hG0 hG1 hF2 hw2 hc10 HM.out HR.out _ _ _
                · obtain ⟨b, off, ha, _, _, c2, ix⟩ := (hl2.ch0 hc).int_at k hlt
                  cases ha
                  obtain ⟨x, hx2⟩ : ∃ x, x = l[k] := ⟨_, rfl⟩
                  rw [← hx2] at c2 hx ix
                  have b4 : decide (x < i) = false := decide_eq_false (by omega)
                  clear hx2 hx
                  go_wp2_with (at_builtin; (first
                    | (refine wpL_push rfl _ _ _ rfl w2.heap.size 3 (.int .i64 0) 1 8 Try.underlying44 infoI64 rfl (by decide) (intRp .i64) rfl G (.slice A6 _ C6) M rfl ho [.int .i64 i] _ i 1 (by go_simp) ⟨rfl, hi⟩ hF2 (by rw [HL.out]; omega) (by rw [HL.out]; omega) hc.size ?_; intro v9 w9 ho9 hg9 _; obtain ⟨A9, C9, hv9, _⟩ := ho9.sl hF2; rw [HL2.out] at hv9; subst hv9; have hc9 := hg9 _ _ (Nat.le_refl _) hc; have d9 := hc9.cell c0 (fun q => q); have dW9 := hc9.cell c1 (fun q => q))
                    | (refine wpL_appendR rfl _ _ _ rfl w2.heap.size 3 (.int .i64 0) 1 8 Try.underlying44 infoI64 rfl (by decide) (intRp .i64) rfl G (.slice A9 _ C9) (M ++ [i]) rfl ho9 _ _ (l.drop k) (by go_simp) ((hl2.tailA k hk).beside2 hc9 _ (fun z hz => (ho9.blk z hz).1)) (by rw [HL2.out, HLd.out]; omega) (by rw [HL2.out, HLd.out]; omega) hc9.size ?_; intro v10 w10 ho10 hg10 _; obtain ⟨A10, C10, hv10, _⟩ := ho10.sl hF2; rw [HL3.out] at hv10; subst hv10; have hc10 := hg10 _ _ (Nat.le_refl _) hc9; have kb10 := hc10.heap kb (fun q => q); have fb := freeOf kb10 0; have b0 := cellOf kb10 0 rfl; have st := heap_set (i := 0) kb10 (.slice A10 (l.length + 1) C10); have s0 := cellOf st 0 rfl; have s1 := cellOf st 1 rfl; have hcS : Ch (One w.heap.size) w2 (w10.setCell ⟨w.heap.size, 0, none⟩ (.slice A10 (l.length + 1) C10)) := Ch.setIn (F := One w.heap.size) (hc10.mono (fun _ q => q.elim)) (p := ⟨w.heap.size, 0, none⟩) rfl _; have kS := hcS.heap k0 hn1; have f0 := freeOf kS 0; have f1 := freeOf kS 1; have q0 := cellOf kS 0 rfl; have q1 := cellOf kS 1 rfl)))
                  have m := two_set (u0 := .slice A10 (l.length + 1) C10) (u1 := .int .i64 W) kS
                  have e0 := cellOf m 0 rfl
                  have e1 := cellOf m 1 rfl
                  refine bodyPost_ret (results_cell2 (v := .agg #[.slice A10 (l.length + 1) C10, .int .i64 W]) rfl _ _ _ (by rfl) (by go_simp)) rfl ?_
                  exact put_done F G w w2 w10 A10 C10 W i l M _ _ HL3.out ho10 hGF hG0 hG1 hF2 hw2 hc10 HM.out HR.out _ _ _
end Go.Proofs.Ytpldogmamifdpaa

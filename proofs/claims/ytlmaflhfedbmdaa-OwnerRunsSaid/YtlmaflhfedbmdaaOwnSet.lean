/- Package owner: Set. -/
import Derived.Test.YtlmaflhfedbmdaaOwn
set_option linter.unusedVariables false
set_option linter.unusedSimpArgs false
namespace Go.Proofs.Ytlmaflhfedbmdaa
open Go Go.RowKit

def zeros32 : Array Value := #[.int .i64 0, .int .i64 0, .int .i64 0, .int .i64 0, .int .i64 0, .int .i64 0, .int .i64 0, .int .i64 0, .int .i64 0, .int .i64 0, .int .i64 0, .int .i64 0, .int .i64 0, .int .i64 0, .int .i64 0, .int .i64 0, .int .i64 0, .int .i64 0, .int .i64 0, .int .i64 0, .int .i64 0, .int .i64 0, .int .i64 0, .int .i64 0, .int .i64 0, .int .i64 0, .int .i64 0, .int .i64 0, .int .i64 0, .int .i64 0, .int .i64 0, .int .i64 0]
theorem made32 : madeCells #[.int .i64 0] 32 = zeros32 := by rw [ints_made]; rfl

set_option maxRecDepth 100000 in
set_option maxHeartbeats 2000000 in
theorem owner_Set_ok (w : World) (p m n : Nat) (f : Int → Int) (G : Nat → Prop) (x y o : Int) (h : OwnAt w p m n f G) (hx : I64 x) (hy : I64 y) (ho : I64 o) (h0 : 0 ≤ o) (hx0 : 0 ≤ x) (hy0 : 0 ≤ y) (hxn : x ≤ n) (hyn : x + y ≤ n) :
    Calls Try.prog 32 #[.pointer (some ⟨p, 0, none⟩), .agg #[.int .i64 x, .int .i64 y], .int .i64 o] w fun e w' => e = .returned (.int .i64 0) ∧ ∃ G', OwnAt w' p m n (setF f x (x + y) o) G' ∧ (∀ k, G k → G' k) ∧ (∀ k, G' k → G k ∨ w.heap.size ≤ k) ∧ Ch G w w' := by
  have c0 := cellOf h.head 0 rfl
  have c1 := cellOf h.head 1 rfl
  have hn := h.nle
  have d1 := ((Ch.refl No w).alloc (.cells #[.int .i64 x, .int .i64 y] 72)).cell c1 (fun q => q)
  have hg1 : decide (x > (n : Int)) = false := by simp; omega
  have hw : IntKind.i64.wrap ((n : Int) - x) = n - x := IntWalk.i64_in _ (by have := hx.bd; omega)
  go_enter Try.func32, Try.ntmps32
  go_wp2_with fail
  go_quiet (fail)
  have hg2 : decide ((n : Int) - x < y) = false := by simp; omega
  try simp only [hw]
  go_wp2_with fail
  go_loopw [7] (fun v wr => ∃ (i : Int) (G' : Nat → Prop), x ≤ i ∧ i ≤ x + y ∧ v = .int .i64 i ∧ OwnAt wr p m n (setF f x i o) G' ∧ (∀ k, G k → G' k) ∧ (∀ k, G' k → G k ∨ w.heap.size < k) ∧ Ch G (w.alloc (.cells #[.int .i64 x, .int .i64 y] 72)) wr) (fun v _ => (x + y - intOf v).toNat)
  case atStart =>
    refine ⟨x, G, by omega, by omega, rfl, ?_, fun _ q => q, fun _ q => .inl q, (Ch.refl _ _).drewN _⟩
    rw [setF_none]
    exact h.ch0 (((Ch.refl _ _).alloc _).drewN _)
  case round =>
    obtain ⟨i, G', hi1, hi2, rfl, h', hG1, hG2, hc⟩ := hrel
    have hbox : ¬ G w.heap.size := fun e => by have := h.glt _ e; omega
    have b0 : wr.cell? ⟨w.heap.size, 0, none⟩ = some (.int .i64 x) := hc.cell (by simp) hbox
    have b1 : wr.cell? ⟨w.heap.size, 1, none⟩ = some (.int .i64 y) := hc.cell (by simp) hbox
    have e0 := cellOf h'.head 0 rfl
    by_cases hlt : i < x + y
    · obtain ⟨al, ha⟩ := h'.al
      have hl := run_lookup1 (P := Try.prog) (t := 99) Try.underlying99 (by kernel_rfl) infoGroupPtr ha.map (i / 32)
      clear c0 c1 d1
      cases hg : aGet al (i / 32) with
      | none =>
        rw [hg] at hl
        simp only [Option.getD_none] at hl
        obtain ⟨w3, hu, hm3, hc3⟩ := run_mapUpdate_al (P := Try.prog) (t := 99) Try.underlying99 (by kernel_rfl) (ha.map.ch0 ((Ch.refl _ _).alloc (.cells (madeCells #[.int .i64 0] 32) 104))) (i / 32) (.pointer (some ⟨wr.heap.size, 0, none⟩))
        rw [made32] at hu
        have hlz := h'.glt _ h'.gp
        have f0 : (wr.alloc (.cells zeros32 104)).cell? ⟨p, 0, none⟩ = some (.map (some m)) := ((Ch.refl No wr).alloc _).cell e0 (fun q => q)
        obtain ⟨H1, H2⟩ := h'.group ha hg hm3 hc3
        have hg2 : aGet (aSet al (i / 32) (.pointer (some ⟨wr.heap.size, 0, none⟩))) (i / 32) = some (.pointer (some ⟨wr.heap.size, 0, none⟩)) := by rw [aGet_set, if_pos rfl]
        obtain ⟨g, c, e, k1, k2, k3, k4, k5, k6⟩ := H2.yes _ _ hg2
        cases e
        have c2 := k6 (i % 32).toNat (by omega)
        have c3 := cellOf k4 _ c2
        have c4 := freeOf k4 (i % 32).toNat
        have hm1 : 0 ≤ i % 32 ∧ i % 32 < 32 := by omega
        have hch : Ch G (w.alloc (.cells #[.int .i64 x, .int .i64 y] 72)) w3 := (hc.alloc _).andThen hc3 (fun q hq => .inl (hq ▸ h.gm))
        have hsz := hc.size
        simp only [World.size_alloc] at hsz
        clear k6 hg hc3 hm3 hc
        unfold zeros32 at hu f0
        go_wp2_with fail
        go_roundw
        case rel =>
          refine ⟨i + 1, (fun q => G' q ∨ q = wr.heap.size), by omega, by omega, by go_num, ?_, fun q hq => .inl (hG1 q hq), ?_, hch.setNew (by simp only [World.size_alloc]; omega) _⟩
          · rw [setF_succ _ _ _ _ hi1]; exact H1.store H2 hg2 (by omega) (by omega)
          · rintro q (hq | rfl)
            · exact hG2 q hq
            · right; omega
        case measure => simp only [intOf]; omega
      | some v =>
        rw [hg] at hl
        obtain ⟨g, c, rfl, k1, k2, k3, k4, k5, k6⟩ := ha.yes _ _ hg
        simp only [Option.getD_some] at hl
        have c2 := k6 (i % 32).toNat (by omega)
        have c3 := cellOf k4 _ c2
        have c4 := freeOf k4 (i % 32).toNat
        have hm1 : 0 ≤ i % 32 ∧ i % 32 < 32 := by omega
        clear k6
        go_wp2_with fail
        go_roundw
        case rel =>
          refine ⟨i + 1, G', by omega, by omega, by go_num, ?_, hG1, hG2, ?_⟩
          · rw [setF_succ _ _ _ _ hi1]; exact h'.store ha hg (by omega) (by omega)
          · rcases hG2 _ k3 with hk | hk
            · exact hc.setIn hk _
            · exact hc.setNew (by simp only [World.size_alloc]; omega) _
        case measure => simp only [intOf]; omega
    · obtain rfl : i = x + y := by omega
      go_wp2_with fail
      go_ret
      exact ⟨rfl, G', h', hG1, fun k hk => (hG2 k hk).imp id (fun e => by omega), ((Ch.refl G w).alloc _).trans hc⟩

end Go.Proofs.Ytlmaflhfedbmdaa

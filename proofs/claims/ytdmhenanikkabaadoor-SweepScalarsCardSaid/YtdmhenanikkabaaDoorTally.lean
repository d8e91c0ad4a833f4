/- Layer 15 (tally): what a tally in memory is; New, Of, set, Add, Swap, Forget. -/
import Derived.Test.YtdmhenanikkabaaDoorTallyPure
import Derived.BigQuiet
import Derived.StillTailTactics
set_option linter.unusedVariables false
set_option linter.unusedSimpArgs false
namespace Go.Proofs.YtdmhenanikkabaaDoor
open Go Go.RowKit

theorem infoIntZ : (Tryd.prog.info? 3).map (·.zero) = some (some (.int .i64 0)) := by kernel_rfl

/-- A tally in memory. -/
structure TallyAt (w : World) (t m : Nat) (L : Rows) : Prop where
  tm : t ≠ m
  head : w.heap[t]? = some (.cells #[.map (some m)] 56 (0, 0))
  rise : Rising L
  map : ∃ al, MapAt w m al ∧ ∀ k, aGet al k = if cnt L k = 0 then none else some (.int .i64 (cnt L k))
theorem TallyAt.ch {w w' : World} {t m : Nat} {L : Rows} {F : Nat → Prop} (h : TallyAt w t m L) (hc : Ch F w w') (h1 : ¬ F t) (h2 : ¬ F m) : TallyAt w' t m L :=
  ⟨h.tm, hc.heap h.head h1, h.rise, by obtain ⟨al, hm, hg⟩ := h.map; exact ⟨al, hm.ch hc h2, hg⟩⟩
theorem TallyAt.ch0 {w w' : World} {t m : Nat} {L : Rows} (h : TallyAt w t m L) (hc : Ch No w w') : TallyAt w' t m L := h.ch hc (fun q => q) (fun q => q)
theorem TallyAt.lt {w : World} {t m : Nat} {L : Rows} (h : TallyAt w t m L) : t < w.heap.size ∧ m < w.heap.size := ⟨heap_lt h.head, by obtain ⟨al, hm, _⟩ := h.map; exact hm.lt⟩

theorem tally_New (w : World) :
    Calls Tryd.prog 12 #[] w fun e w' => ∃ t m, e = .returned (.pointer (some ⟨t, 0, none⟩)) ∧ TallyAt w' t m [] ∧ w.heap.size ≤ t ∧ w.heap.size ≤ m ∧ Ch No w w' := by
  go_enter Tryd.func12, Tryd.ntmps12
  go_wp2_with fail
  go_ret
  refine ⟨w.heap.size + 1, w.heap.size, rfl, ⟨by omega, ?_, Rising.nil, [], ?_, fun k => by simp [aGet, cnt]⟩, by omega, by omega, ((Ch.refl _ _).alloc _).alloc _⟩
  · simpa using heap_alloc2_new w _ _
  · exact (MapAt.new w).ch0 ((Ch.refl _ _).alloc _)

theorem tally_look {w : World} {t m : Nat} {L : Rows} (h : TallyAt w t m L) (k : Int) :
    (Instr.lookup 54 (.map (some m)) (.int .i64 k) false).run Tryd.prog w = .ok (.int .i64 (cnt L k)) w := by
  obtain ⟨al, hm, hg⟩ := h.map
  have hl := run_lookup1 (P := Tryd.prog) (t := 54) Tryd.underlying54 (by kernel_rfl) infoIntZ hm k
  rw [hl, hg k]
  split
  · rename_i e; rw [e]; rfl
  · rfl

theorem tally_Of (w : World) (t m : Nat) (L : Rows) (k : Int) (h : TallyAt w t m L) :
    Calls Tryd.prog 17 #[.pointer (some ⟨t, 0, none⟩), .int .i64 k] w fun e w' => e = .returned (.int .i64 (cnt L k)) ∧ w = w' := by
  have c0 := cellOf h.head 0 rfl
  have hl := tally_look h k
  go_enter Tryd.func17, Tryd.ntmps17
  go_wp2_with fail
  go_ret
  exact ⟨rfl, rfl⟩

theorem tally_set (w : World) (t m : Nat) (L : Rows) (k n : Int) (h : TallyAt w t m L) (hk : 1 ≤ k ∨ n = 0) (hk2 : I64 k) (hn : 0 ≤ n ∧ n ≤ 2147483647) :
    Calls Tryd.prog 22 #[.pointer (some ⟨t, 0, none⟩), .int .i64 k, .int .i64 n] w fun e w' => e = .returned (.tuple #[]) ∧ TallyAt w' t m (rset L k n) ∧ Ch (One m) w w' := by
  have c0 := cellOf h.head 0 rfl
  have hr : Rising (rset L k n) := h.rise.set hk (by have := hk2.bd; omega) hn
  have hcs := cnt_set h.rise k n
  have htm := h.tm
  obtain ⟨al, hm, hg⟩ := h.map
  by_cases e : n = 0
  · subst e
    obtain ⟨w2, hd, hm2, hc2⟩ := run_delete_al (P := Tryd.prog) (t := 54) Tryd.underlying54 (by kernel_rfl) hm k 3 1
    have hd0 : ∀ ty, (Builtin.delete_ #[54, 3] ty #[.map (some m), .int .i64 k]).run Tryd.prog w = .ok (.tuple #[]) w2 := fun ty => hd
    go_enter Tryd.func22, Tryd.ntmps22
    go_wp2_with fail
    refine bodyPost_ret (results_none rfl _ _ _) rfl ?_
    refine ⟨rfl, ⟨htm, hc2.heap h.head (fun q => htm q), hr, _, hm2, fun q => ?_⟩, hc2⟩
    rw [aGet_del _ _ _ hm.nodup, hg q, hcs q]
    by_cases hq : q = k <;> simp [hq]
  · have b1 : (n == 0) = false := by simp [e]
    obtain ⟨w3, hu, hm4, hc4⟩ := run_mapUpdate_al (P := Tryd.prog) (t := 54) Tryd.underlying54 (by kernel_rfl) hm k (.int .i64 n)
    have HE := Lib.hid e
    clear e
    go_enter Tryd.func22, Tryd.ntmps22
    go_wp2_with fail
    go_end0
    refine ⟨rfl, ⟨htm, hc4.heap h.head (fun q => htm q), hr, _, hm4, fun q => ?_⟩, hc4⟩
    rw [aGet_set, hg q, hcs q]
    by_cases hq : q = k
    · rw [if_pos hq, if_pos hq, if_neg HE.out]
    · rw [if_neg hq, if_neg hq]

theorem tally_Add (w : World) (t m : Nat) (L : Rows) (k n : Int) (h : TallyAt w t m L) (hk : I64 k) (hn : I64 n) :
    Calls Tryd.prog 14 #[.pointer (some ⟨t, 0, none⟩), .int .i64 k, .int .i64 n] w fun e w' => e = .returned (.int .i64 (tAdd L k n).2) ∧ TallyAt w' t m (tAdd L k n).1 ∧ Ch (One m) w w' := by
  have hof := tally_Of w t m L k h
  obtain ⟨c, hc⟩ : ∃ z, z = cnt L k := ⟨_, rfl⟩
  have hcb := cnt_bd h.rise k
  have hbd := hn.bd
  rw [← hc] at hof hcb
  by_cases h1 : k < 1
  · have b1 : decide (k < 1) = true := decide_eq_true h1
    have HC := Lib.hid hc
    have HT := Lib.hid (show tAdd L k n = (L, 1) from by unfold tAdd; rw [if_pos h1])
    clear h1 hc
    go_enter Tryd.func14, Tryd.ntmps14
    go_wp2_with fail
    with_reducible refine hof.mono ?_
    rintro e w1 ⟨rfl, rfl⟩
    dsimp only
    go_wp2_with fail
    go_ret
    rw [HT.out]
    exact ⟨rfl, h, Ch.refl _ _⟩
  · have b1 : decide (k < 1) = false := decide_eq_false h1
    have e1 : IntKind.i64.wrap (-c) = -c := IntWalk.i64_in _ (by omega)
    have e2 : IntKind.i64.wrap (2147483647 - c) = 2147483647 - c := IntWalk.i64_in _ (by omega)
    by_cases h2 : n < -c
    · have b2 : decide (n < -c) = true := decide_eq_true h2
      have HC := Lib.hid hc
      have HT := Lib.hid (show tAdd L k n = (L, 8) from by unfold tAdd; rw [if_neg h1, ← hc, if_pos (.inl h2)])
      clear h1 hc h2
      go_enter Tryd.func14, Tryd.ntmps14
      go_wp2_with fail
      with_reducible refine hof.mono ?_
      rintro e w1 ⟨rfl, rfl⟩
      dsimp only
      go_wp2_with fail
      go_ret
      rw [HT.out]
      exact ⟨rfl, h, Ch.refl _ _⟩
    · have b2 : decide (n < -c) = false := decide_eq_false h2
      by_cases h3 : n > 2147483647 - c
      · have b3 : decide (n > 2147483647 - c) = true := decide_eq_true h3
        have HC := Lib.hid hc
        have HT := Lib.hid (show tAdd L k n = (L, 8) from by unfold tAdd; rw [if_neg h1, ← hc, if_pos (.inr h3)])
        clear h1 hc h2 h3
        go_enter Tryd.func14, Tryd.ntmps14
        go_wp2_with fail
        with_reducible refine hof.mono ?_
        rintro e w1 ⟨rfl, rfl⟩
        dsimp only
        go_wp2_with fail
        go_ret
        rw [HT.out]
        exact ⟨rfl, h, Ch.refl _ _⟩
      · have b3 : decide (n > 2147483647 - c) = false := decide_eq_false h3
        have e3 : IntKind.i64.wrap (c + n) = c + n := IntWalk.i64_in _ (by omega)
        have HC := Lib.hid hc
        have HT := Lib.hid (show tAdd L k n = (rset L k (c + n), 0) from by unfold tAdd; rw [if_neg h1, ← hc, if_neg (by omega)])
        have hst := tally_set w t m L k (c + n) h (.inl (by omega)) hk (by omega)
        clear h1 hc h2 h3
        go_enter Tryd.func14, Tryd.ntmps14
        go_wp2_with fail
        with_reducible refine hof.mono ?_
        rintro e w1 ⟨rfl, rfl⟩
        dsimp only
        go_wp2_with fail
        with_reducible refine hst.mono ?_
        rintro e w2 ⟨rfl, ht, hc⟩
        dsimp only
        go_wp2_with fail
        go_ret
        rw [HT.out]
        exact ⟨rfl, ht, hc⟩
end Go.Proofs.YtdmhenanikkabaaDoor

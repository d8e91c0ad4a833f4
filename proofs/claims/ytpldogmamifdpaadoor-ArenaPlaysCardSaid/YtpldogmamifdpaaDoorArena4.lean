/- Layer 11 (arena): Things, Runs, Release of any arena whose runs are granted. -/
import Derived.Test.YtpldogmamifdpaaDoorArena3
import Derived.Lib.SliceRun
import Derived.StillTailTactics
set_option linter.unusedVariables false
set_option linter.unusedSimpArgs false
namespace Go.Proofs.YtpldogmamifdpaaDoor
open Go Go.RowKit

/-- An owned row of pairs can be read, whatever is shut out below its base. -/
theorem OwnR.pairs_any {base : Nat} {T : TypeId} {w : World} {v : Value} {l : List (Int × Int)} (F : Nat → Prop) (h : OwnR (pairRp .i64) base T No w v l) : OwnR (pairRp .i64) base T F w v l := by
  obtain ⟨xs, hown, hr⟩ := h
  exact ⟨xs, hown, fun i hi => hr i hi⟩

set_option maxRecDepth 100000 in
theorem clone_runs (F : Nat → Prop) (w : World) (a : Option Addr) (c : Nat) (l : List (Int × Int)) (h : SlR (pairRp .i64) No w a c l) (hl : l.length ≤ 100000) (hF : ∀ k, F k → k < w.heap.size) :
    Calls Tryd.prog 39 #[.slice a l.length c] w fun e w' => ∃ q c', e = .returned (.slice q l.length c') ∧ SlR (pairRp .i64) F w' q c' l ∧ Ch No w w' := by
  have hnil := Lib.run_eql_slice_nil (P := Tryd.prog) w 35 37 a l.length c 0 0 Tryd.underlying35
  cases a with
  | none =>
    have hc0 := h.nil rfl
    have hle := h.le
    obtain rfl : l = [] := List.eq_nil_of_length_eq_zero (by omega)
    subst hc0
    rw [show (none : Option Addr).isNone = true from rfl] at hnil
    simp only [List.length_nil] at hnil
    go_enter Tryd.func39, Tryd.ntmps39
    go_wp2_with fail
    go_ret
    exact ⟨none, 0, rfl, SlR.nilR _ _ _, Ch.refl _ _⟩
  | some a =>
    rw [show (some a : Option Addr).isNone = false from rfl] at hnil
    have ho : OwnR (pairRp .i64) w.heap.size 37 No (w.alloc (.cells #[] 37)) (.slice (some ⟨w.heap.size, 0, none⟩) 0 0) [] := OwnR.lit0 (Nat.le_refl _)
    have hal : Ch No w (w.alloc (.cells #[] 37)) := (Ch.refl _ _).alloc _
    have hs := (h.beside (.slice (some ⟨w.heap.size, 0, none⟩) 0 0) ownBlock_lit).ch0 hal
    go_enter Tryd.func39, Tryd.ntmps39
    go_wp2_with (at_builtin; go_loud (refine wpL_appendR rfl _ _ _ rfl w.heap.size 37 (.agg #[.int .i64 0, .int .i64 0]) 2 16 Tryd.underlying35 infoRun rfl (by decide) (pairRp .i64) rfl No (.slice (some ⟨w.heap.size, 0, none⟩) 0 0) [] rfl ho _ _ l (by go_simp) hs (by simp; omega) (by simp; omega) (by simp) ?_); intro v9 w9 ho9 hg9 _)
    go_ret
    obtain ⟨q, c', rfl, hs9⟩ := (ho9.pairs_any F).sl hF
    exact ⟨q, c', rfl, hs9, hg9 _ _ (Nat.le_refl _) hal⟩

theorem arena_Things (F : Nat → Prop) (w : World) (base b : Nat) (fv : Value) (p : Nat) (pg us : Int) (rv tv : Value) (R T : List (Int × Int)) (h : ArenaAt w base b fv p pg us rv tv R T) (hl : T.length ≤ 100000) (hF : ∀ k, F k → k < w.heap.size) :
    Calls Tryd.prog 16 #[.pointer (some ⟨b, 0, none⟩)] w fun e w' => ∃ q c', e = .returned (.slice q T.length c') ∧ SlR (pairRp .i64) F w' q c' T ∧ Ch No w w' := by
  obtain ⟨A, C, htv, hs⟩ := h.things.sl (fun _ q => q.elim)
  have c3 : w.cell? ⟨b, 3, none⟩ = some (.slice A T.length C) := by rw [← htv]; exact cellOf h.head 3 rfl
  have hcl := clone_runs F w A C T hs hl hF
  clear htv
  go_enter Tryd.func16, Tryd.ntmps16
  go_wp2_with fail
  with_reducible refine hcl.mono ?_
  rintro e w1 ⟨q, c', rfl, hs1, hc1⟩
  dsimp only
  go_wp2_with fail
  go_ret
  exact ⟨q, c', rfl, hs1, hc1⟩

theorem arena_Runs (F : Nat → Prop) (w : World) (base b : Nat) (fv : Value) (p : Nat) (pg us : Int) (rv tv : Value) (R T : List (Int × Int)) (h : ArenaAt w base b fv p pg us rv tv R T) (hl : R.length ≤ 100000) (hF : ∀ k, F k → k < w.heap.size) :
    Calls Tryd.prog 17 #[.pointer (some ⟨b, 0, none⟩)] w fun e w' => ∃ q c', e = .returned (.slice q R.length c') ∧ SlR (pairRp .i64) F w' q c' R ∧ Ch No w w' := by
  obtain ⟨A, C, htv, hs⟩ := h.runs.sl (fun _ q => q.elim)
  have c2 : w.cell? ⟨b, 2, none⟩ = some (.slice A R.length C) := by rw [← htv]; exact cellOf h.head 2 rfl
  have hcl := clone_runs F w A C R hs hl hF
  clear htv
  go_enter Tryd.func17, Tryd.ntmps17
  go_wp2_with fail
  with_reducible refine hcl.mono ?_
  rintro e w1 ⟨q, c', rfl, hs1, hc1⟩
  dsimp only
  go_wp2_with fail
  go_ret
  exact ⟨q, c', rfl, hs1, hc1⟩

/-- The runs are granted, and no two of them meet. -/
def Holds (x : List Bool) (R : List (Int × Int)) : Prop :=
  (∀ r ∈ R, 0 ≤ r.1 ∧ 1 ≤ r.2 ∧ r.1 + r.2 ≤ x.length ∧ ∀ i : Nat, r.1 ≤ i → (i : Int) < r.1 + r.2 → x.getD i false = true) ∧ R.Pairwise (fun r q => r.1 + r.2 ≤ q.1 ∨ q.1 + q.2 ≤ r.1)
/-- Behind giving the runs back. -/
def givenBack (x : List Bool) : List (Int × Int) → List Bool
  | [] => x
  | r :: R => givenBack (markB x r.1.toNat false r.2.toNat) R
theorem givenBack_length : ∀ (R : List (Int × Int)) (x : List Bool), (givenBack x R).length = x.length
  | [], x => rfl
  | r :: R, x => by rw [givenBack, givenBack_length R, markB_length]
theorem Holds.step {x : List Bool} {r : Int × Int} {R : List (Int × Int)} (h : Holds x (r :: R)) : BackTo x r.1 r.2 0 (markB x r.1.toNat false r.2.toNat) ∧ Holds (markB x r.1.toNat false r.2.toNat) R := by
  obtain ⟨h1, h2⟩ := h
  rw [List.pairwise_cons] at h2
  obtain ⟨a0, a1, a2, a3⟩ := h1 r (List.mem_cons_self ..)
  have hf : fitsB x.length r.1 r.2 := by unfold fitsB; omega
  refine ⟨.inr (.inr ⟨a1, ?_, hf, rfl, rfl⟩), ⟨fun q hq => ?_, h2.2⟩⟩
  · unfold wholeB
    rw [Bool.and_eq_true, decide_eq_true_iff, List.all_eq_true]
    refine ⟨hf, fun j hj => ?_⟩
    rw [List.mem_range] at hj
    rw [a3 (r.1.toNat + j) (by omega) (by omega)]
    rfl
  · obtain ⟨b0, b1, b2, b3⟩ := h1 q (List.mem_cons_of_mem _ hq)
    refine ⟨b0, b1, by rw [markB_length]; exact b2, fun i hi1 hi2 => ?_⟩
    rw [markB_get _ _ _ _ _ (by omega), if_neg (by have := h2.1 q hq; omega)]
    exact b3 i hi1 hi2
theorem BackTo_ok {x : List Bool} {a b E : Int} {x' x'' : List Bool} (h : BackTo x a b 0 x'') (h' : BackTo x a b E x') : E = 0 ∧ x' = x'' := by
  rcases h with ⟨_, h, _⟩ | ⟨_, _, _, h, _⟩ | ⟨h1, h2, h3, _, rfl⟩
  · omega
  · omega
  · rcases h' with ⟨g1, _, _⟩ | ⟨_, _, g1, _, _⟩ | ⟨_, _, _, rfl, rfl⟩
    · rcases g1 with g1 | g1
      · omega
      · exact absurd h3 g1
    · rw [h2] at g1; cases g1
    · exact ⟨rfl, rfl⟩

set_option maxRecDepth 100000 in
set_option maxHeartbeats 4000000 in
theorem arena_Release (w : World) (base b p s p0 g m h : Nat) (pg us : Int) (rv tv : Value) (R T : List (Int × Int)) (x : List Bool) (W : List Int) (ha : ArenaAt w base b (.pointer (some ⟨s, 0, none⟩)) p pg us rv tv R T) (hk : PagesAt w s p0 g m h x W) (hn : Nw w) (hb : base ≤ w.heap.size) (hR : R.length ≤ 100000) (hh : Holds x R)
    (hap : ∀ k, foot b p rv tv k → k ≠ s ∧ k ≠ p0 ∧ k ≠ g ∧ k ≠ m ∧ k ≠ h) (hnb : 0 < base ∧ 0 ≠ g ∧ 0 ≠ h) :
    Calls Tryd.prog 11 #[.pointer (some ⟨b, 0, none⟩)] w fun e w' => ∃ p', e = .returned (.int .i64 0) ∧ ArenaAt w' base b (.pointer (some ⟨s, 0, none⟩)) p' (-1) 16 (.slice none 0 0) (.slice none 0 0) [] [] ∧ w.heap.size ≤ p' ∧ PagesAt w' s p0 g m h (givenBack x R) W ∧ Ch (fun k => k = b ∨ k = g) w w' := by
  have hx0 := hk.le
  obtain ⟨A, C, hrv, hsl⟩ := ha.runs.sl (fun _ q => q.elim)
  subst hrv
  have c0 : w.cell? ⟨b, 0, none⟩ = some (.pointer (some ⟨s, 0, none⟩)) := cellOf ha.head 0 rfl
  have c2 : w.cell? ⟨b, 2, none⟩ = some (.slice A R.length C) := cellOf ha.head 2 rfl
  have hbl := heap_lt ha.head
  have hbg := (hap b (.inl rfl)).2.2.1
  go_enter Tryd.func11, Tryd.ntmps11
  go_wp2_with fail
  go_loopw [11] (fun v wq => ∃ (i : Nat) (y : List Bool), i ≤ R.length ∧ v = .int .i64 i ∧ givenBack y (R.drop i) = givenBack x R ∧ Holds y (R.drop i) ∧ y.length = x.length ∧ PagesAt wq s p0 g m h y W ∧ Ch (One g) w wq) (fun v _ => R.length - (intOf v).toNat)
  case atStart => exact ⟨0, x, by omega, rfl, rfl, hh, rfl, hk, Ch.refl _ _⟩
  case round =>
    obtain ⟨i, y, hi, rfl, hgb, hho, hyl, hky, hc⟩ := hrel
    have c0 := hc.cell c0 (fun q => hbg q)
    by_cases hlt : i < R.length
    · have hslr : SlR (pairRp .i64) No wr A C R := by
        obtain ⟨A', C', e', hs'⟩ := (ha.runs.aside hc (fun k q r => (hap k (.inr (.inr (.inl q)))).2.2.1 r)).sl (fun _ q => q.elim)
        cases e'
        exact hs'
      obtain ⟨bq, off, rfl, _, _, d0, d1, i0, i1⟩ := hslr.pair_at i hlt
      rw [List.drop_eq_getElem_cons hlt] at hgb hho
      obtain ⟨r, hr⟩ : ∃ r, r = R[i] := ⟨_, rfl⟩
      rw [← hr] at d0 d1 i0 i1 hgb hho
      obtain ⟨r1, r2⟩ := r
      dsimp only at d0 d1 i0 i1
      have hst := hho.step
      have hal : Ch No wr (wr.alloc (.cells #[.int .i64 r1, .int .i64 r2] 37)) := (Ch.refl _ _).alloc _
      obtain ⟨wa, hwa⟩ : ∃ z, z = wr.alloc (.cells #[.int .i64 r1, .int .i64 r2] 37) := ⟨_, rfl⟩
      rw [← hwa] at hal
      have e0 : wa.cell? ⟨wr.heap.size, 0, none⟩ = some (.int .i64 r1) := by rw [hwa]; exact cellOf (World.alloc_heap_new _ _) 0 rfl
      have e1 : wa.cell? ⟨wr.heap.size, 1, none⟩ = some (.int .i64 r2) := by rw [hwa]; exact cellOf (World.alloc_heap_new _ _) 1 rfl
      have ca := hal.cell c0 (fun q => q)
      have hka := hky.ch0 hal
      have HWA := Lib.hid hwa
      have HGB := Lib.hid hgb
      have HST := Lib.hid hst
      clear hwa hr hgb hho hst
      go_wp2_with fail
      rw [← HWA.out]
      go_still_tail 5, (by kernel_rfl)
      obtain ⟨w5, hw5⟩ : ∃ z, z = wa.drew := ⟨_, rfl⟩
      have hdr : Ch No wa w5 := by rw [hw5]; exact (Ch.refl _ _).drew
      change wpList _ _ _ _ _ wa.drew
      rw [← hw5]
      have e0 := hdr.cell e0 (fun q => q)
      have e1 := hdr.cell e1 (fun q => q)
      have ca := hdr.cell ca (fun q => q)
      have hk5 := hka.ch0 hdr
      clear hw5
      go_wp2_with fail
      with_reducible refine (pages_Back w5 s p0 g m h y W r1 r2 hk5 i0 i1).mono ?_
      rintro e w6 ⟨E, y', rfl, hk6, hc6, hto⟩
      obtain ⟨rfl, rfl⟩ := BackTo_ok HST.out.1 hto
      clear hto
      dsimp only
      go_wp2_with fail
      go_roundw
      case rel => exact ⟨i + 1, _, by omega, by go_num, HGB.out, HST.out.2, by rw [markB_length]; exact hyl, hk6, ((hc.trans (hal.ofNo)).trans (hdr.ofNo)).trans hc6⟩
      case measure => exact meas_lt (by omega)
    · obtain rfl : i = R.length := by omega
      rw [List.drop_length] at hgb
      have hgb2 : y = givenBack x R := hgb
      have HGB := Lib.hid hgb2
      have hnr := hn.ch hc (fun q => hnb.2.1 q)
      have hd0 := hc.heap ha.head (fun q => hbg q)
      have hszr := hc.size
      have hnw := arena_New wr base (.pointer (some ⟨s, 0, none⟩)) hnr (by omega) (.inr ⟨s, rfl⟩)
      have hbs := (hap b (.inl rfl)).1
      have hbp := (hap b (.inl rfl)).2.1
      have hbm := (hap b (.inl rfl)).2.2.2.1
      have hbh := (hap b (.inl rfl)).2.2.2.2
      clear hgb hgb2 hho
      go_wp2_with fail
      with_reducible refine hnw.mono ?_
      rintro e w1 ⟨b2, p2, rfl, ha2, hb2, hp2, hc1⟩
      have hd := hc1.heap hd0 (fun q => q)
      have x0 := cellOf hd 0 rfl
      have x1 := cellOf hd 1 rfl
      have x2 := cellOf hd 2 rfl
      have x3 := cellOf hd 3 rfl
      have f0 := freeOf hd 0
      have f1 := freeOf hd 1
      have f2 := freeOf hd 2
      have f3 := freeOf hd 3
      have y0 := cellOf ha2.head 0 rfl
      have y1 := cellOf ha2.head 1 rfl
      have y2 := cellOf ha2.head 2 rfl
      have y3 := cellOf ha2.head 3 rfl
      dsimp only
      go_wp2_with fail
      go_ret
      have hm := four_set (u0 := .pointer (some ⟨s, 0, none⟩)) (u1 := .pointer (some ⟨p2, 0, none⟩)) (u2 := .slice none 0 0) (u3 := .slice none 0 0) hd
      have hB : Ch (One b) w1 ((((w1.setCell ⟨b, 0, none⟩ (.pointer (some ⟨s, 0, none⟩))).setCell ⟨b, 1, none⟩ (.pointer (some ⟨p2, 0, none⟩))).setCell ⟨b, 2, none⟩ (.slice none 0 0)).setCell ⟨b, 3, none⟩ (.slice none 0 0)) :=
        Ch.setIn (F := One b) (Ch.setIn (F := One b) (Ch.setIn (F := One b) (Ch.setIn (F := One b) (Ch.refl _ _) (p := ⟨b, 0, none⟩) rfl _) (p := ⟨b, 1, none⟩) rfl _) (p := ⟨b, 2, none⟩) rfl _) (p := ⟨b, 3, none⟩) rfl _
      exact ⟨p2, rfl, ⟨ha.hb, ha2.hp, hm, ha2.plan.ch hB (fun q => by have : p2 = b := q; omega), OwnR.nilR _ _ _ _ _, OwnR.nilR _ _ _ _ _, by omega, fun k q => by simp [Value.ownBlock] at q, fun k q => by simp [Value.ownBlock] at q, fun k q => by simp [Value.ownBlock] at q⟩, by omega,
        by rw [← HGB.out]; exact (hky.ch0 hc1).ch hB (fun q => hbs (show s = b from q).symm) (fun q => hbp (show p0 = b from q).symm) (fun q => hbg (show g = b from q).symm) (fun q => hbm (show m = b from q).symm) (fun q => hbh (show h = b from q).symm),
        ((hc.mono fun k q => .inr q).trans (hc1.ofNo)).trans (hB.mono fun k q => .inl q)⟩
end Go.Proofs.YtpldogmamifdpaaDoor

/- Layer 11 (arena): what an arena in memory is; New, Alloc. -/
import Derived.Test.YtpldogmamifdpaaDoorPages2
import Derived.Test.YtpldogmamifdpaaDoorPlanPlace
set_option linter.unusedVariables false
set_option linter.unusedSimpArgs false
namespace Go.Proofs.YtpldogmamifdpaaDoor
open Go Go.RowKit

theorem infoRun : (Tryd.prog.info? 37).map (fun i => (i.zero, i.size, i.bytes)) = some (some (.agg #[.int .i64 0, .int .i64 0]), 2, 16) := by kernel_rfl

/-- 'append(s, y)' as wpL_push; where the row lies then is told too. -/
theorem wpL_pushK {α : Type} {P : Program} {w : World} {ops : Array Oper} {rest : List Oper} {o : Oper} {a : Act} {Q : Exit → Act → World → Prop}
    (hg : o.guard = none) (s x : Operand) (t : TypeId) (hop : o.op = .call { callee := .builtin .append, args := #[s, x], argTypes := #[t, t] })
    (base : Nat) (e : TypeId) (z : Value) (size bytes : Nat) (h1 : P.underlying t = some (.slice e))
    (hrow : (P.info? e).map (fun i => (i.zero, i.size, i.bytes)) = some (some z, size, bytes)) (hzs : z.cells.size = size) (hsz : 0 < size)
    (er : Rp α) (hen : er.n = size) (F : Nat → Prop) (v : Value) (l : List α) (hs : a.eval s = v) (hown : OwnR er base e F w v l)
    (cs : List Value) (T : TypeId) (y : α) (c : Nat) (hx : a.eval x = .slice (some ⟨w.heap.size, 0, none⟩) 1 c) (hy : er.R (fun k => F k ∨ v.ownBlock = some k) w cs y) (hF : ∀ k, F k → k < base)
    (h63 : l.length + 1 ≤ 9223372036854775807) (hbytes : (l.length + 1) * bytes ≤ 140737488355328) (hbase : base ≤ w.heap.size)
    (h : ∀ v' w', OwnR er base e F w' v' (l ++ [y]) → Ch (fun k => v.ownBlock = some k) w w' → (∀ k, v'.ownBlock = some k → v.ownBlock = some k ∨ w.heap.size ≤ k) → wpList P ops Q rest (a.put o.dst v') w') :
    wpList P ops Q (o :: rest) a (w.alloc (.cells cs.toArray T)) := by
  subst hen
  obtain ⟨xs, hrw, hr⟩ := hown
  have hlen := er.len hy
  refine wpL_append hg s x t hop base e z er.n bytes h1 hrow hzs hsz v l.length xs hs (hrw.alloc _) (some ⟨w.heap.size, 0, none⟩) 1 c cs hx (by omega) (by simp)
    (fun _ => ⟨_, rfl, fun j u hj => by rw [Addr.add_lit, Nat.zero_add, World.cell?_alloc_new]; simpa using hj⟩) (er.one hy) (by unfold maxLen; omega) hbytes (by simp; omega) fun v' w' ho hg' hk => ?_
  have hc0 : Ch No w (w.alloc (.cells cs.toArray T)) := (Ch.refl _ _).alloc _
  refine h v' w' ?_ (((Ch.refl _ _).alloc _).grown hg' (fun k hk => .inr hk)) (fun k hk' => (hk k hk').imp id (fun q => by simp at q; omega))
  refine OwnR.push (w := w.alloc (.cells cs.toArray T)) (fun i hi => er.tr (hr i hi) (fun k hk hn => hc0.block k hk (fun q => q)) hc0.size (fun k hk => .inl hk)) hrw.1 (er.tr hy (fun k hk hn => hc0.block k hk (fun q => q)) hc0.size (fun k hk => .inl hk)) hg' ho hk

/-- An owned row of pairs, behind a step that leaves its block. -/
theorem OwnR.aside {base : Nat} {T : TypeId} {w w' : World} {v : Value} {l : List (Int × Int)} {G : Nat → Prop} (h : OwnR (pairRp .i64) base T No w v l) (hc : Ch G w w') (hn : ∀ k, v.ownBlock = some k → ¬ G k) : OwnR (pairRp .i64) base T No w' v l := by
  obtain ⟨xs, hown, hr⟩ := h
  refine ⟨xs, ⟨hown.1, ?_⟩, fun i hi => hr i hi⟩
  rcases hown.2 with hq | ⟨g, cap, cur, hv, hg, hh, rest⟩
  · exact .inl hq
  · exact .inr ⟨g, cap, cur, hv, hg, hc.heap hh (hn g (by rw [hv]; simp [Value.ownBlock])), rest⟩

/-- The blocks of an arena. -/
def foot (b p : Nat) (rv tv : Value) : Nat → Prop := fun k => k = b ∨ k = p ∨ rv.ownBlock = some k ∨ tv.ownBlock = some k

/-- An arena in memory: its plan, its runs, its things; all of it lies at or behind base. -/
structure ArenaAt (w : World) (base b : Nat) (fv : Value) (p : Nat) (pg us : Int) (rv tv : Value) (R T : List (Int × Int)) : Prop where
  hb : base ≤ b
  hp : base ≤ p
  head : w.heap[b]? = some (.cells #[fv, .pointer (some ⟨p, 0, none⟩), rv, tv] 75 (0, 0))
  plan : PlanAt w p pg us
  runs : OwnR (pairRp .i64) base 37 No w rv R
  things : OwnR (pairRp .i64) base 37 No w tv T
  bp : b ≠ p
  rb : ∀ k, rv.ownBlock = some k → k ≠ b ∧ k ≠ p
  tb : ∀ k, tv.ownBlock = some k → k ≠ b ∧ k ≠ p
  rt : ∀ k, rv.ownBlock = some k → tv.ownBlock ≠ some k
theorem ArenaAt.foot_bd {w : World} {base b : Nat} {fv : Value} {p : Nat} {pg us : Int} {rv tv : Value} {R T : List (Int × Int)} (h : ArenaAt w base b fv p pg us rv tv R T) : ∀ k, foot b p rv tv k → base ≤ k ∧ k < w.heap.size := by
  rintro k (rfl | rfl | q | q)
  · exact ⟨h.hb, heap_lt h.head⟩
  · exact ⟨h.hp, h.plan.lt⟩
  · exact h.runs.blk k q
  · exact h.things.blk k q
theorem ArenaAt.ch {w w' : World} {base b : Nat} {fv : Value} {p : Nat} {pg us : Int} {rv tv : Value} {R T : List (Int × Int)} {F : Nat → Prop} (h : ArenaAt w base b fv p pg us rv tv R T) (hc : Ch F w w') (hn : ∀ k, foot b p rv tv k → ¬ F k) : ArenaAt w' base b fv p pg us rv tv R T :=
  ⟨h.hb, h.hp, hc.heap h.head (hn b (.inl rfl)), h.plan.ch hc (hn p (.inr (.inl rfl))), h.runs.aside hc (fun k q => hn k (.inr (.inr (.inl q)))), h.things.aside hc (fun k q => hn k (.inr (.inr (.inr q)))), h.bp, h.rb, h.tb, h.rt⟩
theorem ArenaAt.ch0 {w w' : World} {base b : Nat} {fv : Value} {p : Nat} {pg us : Int} {rv tv : Value} {R T : List (Int × Int)} (h : ArenaAt w base b fv p pg us rv tv R T) (hc : Ch No w w') : ArenaAt w' base b fv p pg us rv tv R T := h.ch hc (fun _ _ q => q)

theorem arena_New (w : World) (base : Nat) (fv : Value) (hn : Nw w) (hb : base ≤ w.heap.size) (hfv : fv = .pointer none ∨ ∃ s, fv = .pointer (some ⟨s, 0, none⟩)) :
    Calls Tryd.prog 7 #[fv] w fun e w' => ∃ b p, e = .returned (.pointer (some ⟨b, 0, none⟩)) ∧ ArenaAt w' base b fv p (-1) 16 (.slice none 0 0) (.slice none 0 0) [] [] ∧ w.heap.size ≤ b ∧ w.heap.size ≤ p ∧ Ch No w w' := by
  have hpn := plan_New w hn
  rcases hfv with rfl | ⟨s, rfl⟩
  all_goals
    go_enter Tryd.func7, Tryd.ntmps7
    go_wp2_with fail
    with_reducible refine hpn.mono ?_
    rintro e w1 ⟨p, rfl, hp1, hsz, hc1⟩
    have hlt := hp1.lt
    dsimp only
    go_wp2_with fail
    go_ret
    exact ⟨_, p, rfl, ⟨by omega, by omega, World.alloc_heap_new _ _, hp1.ch ((Ch.refl No _).alloc _) (fun q => q), OwnR.nilR _ _ _ _ _, OwnR.nilR _ _ _ _ _, by omega, fun k q => by simp [Value.ownBlock] at q, fun k q => by simp [Value.ownBlock] at q, fun k q => by simp [Value.ownBlock] at q⟩, by omega, by omega, hc1.alloc _⟩

/-- Without pages: nothing that needs some is placed. -/
theorem arena_Alloc_nil (w : World) (base b p : Nat) (rv tv : Value) (R T : List (Int × Int)) (size : Int) (h : ArenaAt w base b (.pointer none) p (-1) 16 rv tv R T) (hn : Nw w) (hs : I64 size) :
    Calls Tryd.prog 8 #[.pointer (some ⟨b, 0, none⟩), .int .i64 size] w fun e w' => e = .returned (.tuple #[.int .i64 0, .int .i64 (if size < 1 ∨ 16384 < size then 1 else 3)]) ∧ Ch No w w' := by
  have c0 : w.cell? ⟨b, 0, none⟩ = some (.pointer none) := cellOf h.head 0 rfl
  have c1 : w.cell? ⟨b, 1, none⟩ = some (.pointer (some ⟨p, 0, none⟩)) := cellOf h.head 1 rfl
  have hnd := plan_Need w p (-1) 16 size h.plan hn hs
  by_cases hb : size < 1 ∨ 16384 < size
  · have e1 : needN 16 size = 0 := by unfold needN; rw [if_pos hb]
    have e2 : needE size = 1 := by unfold needE; rw [if_pos hb]
    rw [e1, e2] at hnd
    simp only [if_pos hb]
    clear hb e1 e2
    go_enter Tryd.func8, Tryd.ntmps8
    go_wp2_with fail
    with_reducible refine hnd.mono ?_
    rintro e w1 ⟨rfl, hc1⟩
    dsimp only
    go_wp2_with fail
    go_ret2
    exact ⟨rfl, hc1⟩
  · have e1 := needN_pos (us := 16) hb (by omega) (by omega)
    rw [e1.2.2] at hnd
    simp only [if_neg hb]
    have b1 : decide (needN 16 size > 0) = true := decide_eq_true e1.1
    obtain ⟨M, hM⟩ : ∃ z, z = needN 16 size := ⟨_, rfl⟩
    rw [← hM] at hnd b1
    clear hb hM e1
    go_enter Tryd.func8, Tryd.ntmps8
    go_wp2_with fail
    with_reducible refine hnd.mono ?_
    rintro e w1 ⟨rfl, hc1⟩
    have c0 := hc1.cell c0 (fun q => q)
    dsimp only
    go_wp2_with fail
    go_ret2
    exact ⟨rfl, hc1⟩

theorem arena_Fits_nil (w : World) (base b p : Nat) (rv tv : Value) (R T : List (Int × Int)) (size : Int) (h : ArenaAt w base b (.pointer none) p (-1) 16 rv tv R T) (hn : Nw w) (hs : I64 size) :
    Calls Tryd.prog 10 #[.pointer (some ⟨b, 0, none⟩), .int .i64 size] w fun e w' => e = .returned (.bool false) ∧ Ch No w w' := by
  have c0 : w.cell? ⟨b, 0, none⟩ = some (.pointer none) := cellOf h.head 0 rfl
  have c1 : w.cell? ⟨b, 1, none⟩ = some (.pointer (some ⟨p, 0, none⟩)) := cellOf h.head 1 rfl
  have hnd := plan_Need w p (-1) 16 size h.plan hn hs
  by_cases hb : size < 1 ∨ 16384 < size
  · have e1 : needN 16 size = 0 := by unfold needN; rw [if_pos hb]
    have e2 : needE size = 1 := by unfold needE; rw [if_pos hb]
    rw [e1, e2] at hnd
    clear hb e1 e2
    go_enter Tryd.func10, Tryd.ntmps10
    go_wp2_with fail
    with_reducible refine hnd.mono ?_
    rintro e w1 ⟨rfl, hc1⟩
    dsimp only
    go_wp2_with fail
    go_ret
    exact ⟨rfl, hc1⟩
  · have e1 := needN_pos (us := 16) hb (by omega) (by omega)
    rw [e1.2.2] at hnd
    have b1 : (needN 16 size == 0) = false := by have := e1.1; simp; omega
    obtain ⟨M, hM⟩ : ∃ z, z = needN 16 size := ⟨_, rfl⟩
    rw [← hM] at hnd b1
    clear hb hM e1
    go_enter Tryd.func10, Tryd.ntmps10
    go_wp2_with fail
    with_reducible refine hnd.mono ?_
    rintro e w1 ⟨rfl, hc1⟩
    have c0 := hc1.cell c0 (fun q => q)
    dsimp only
    go_wp2_with fail
    go_ret
    exact ⟨rfl, hc1⟩
end Go.Proofs.YtpldogmamifdpaaDoor

/- slices.Collect of whole numbers, over an iterator that lays memory of its own. -/
import Derived.Test.YtinjbonodlkafaaDoorSeqR
set_option linter.unusedVariables false
set_option linter.unusedSimpArgs false
namespace Go.Proofs.YtinjbonodlkafaaDoor
open Go Go.RowKit Go.Shelf

attribute [local go_sem] Oper.semAt_some

theorem wpListIn_append_new {F : Fence} {n : Nat} {P : Program} (w : World) {ops : Array Oper} {rest : List Oper} {o : Oper} {a : Act} {Q : Exit → Act → World → Prop}
    (hg : o.guard = none) (s x : Operand) (t : TypeId) (hop : o.op = Op.call { callee := Callee.builtin Builtin.append, args := #[s, x], argTypes := #[t, t] })
    (base : Nat) (e : TypeId) (z : Value) (size bytes : Nat) (h1 : P.underlying t = some (.slice e)) (hrow : (P.info? e).map (fun i => (i.zero, i.size, i.bytes)) = some (some z, size, bytes)) (h6 : z.cells.size = size) (h7 : 0 < size)
    (v : Value) (k : Nat) (xs : List Value) (hs : a.eval s = v) (hown : w.ownsRow base e size v k xs) (ad : Addr) (m c : Nat) (news : List Value) (hx : a.eval x = .slice (some ad) m c) (hn : news.length = m * size)
    (hc : ∀ j u, news[j]? = some u → w.cell? (ad.add j) = some u) (h1c : ∀ u ∈ news, u.oneCell' = true) (b1 : k + m ≤ maxLen) (b2 : (k + m) * bytes ≤ 140737488355328) (b3 : base ≤ w.heap.size)
    (hK : ∀ v' w', w'.ownsRow base e size v' (k + m) (xs ++ news) → w.grownBy w' v.ownBlock → (∀ k, v'.ownBlock = some k → v.ownBlock = some k ∨ w.heap.size ≤ k) → wpListIn F n P ops Q rest (a.put o.dst v') w') :
    wpListIn F n P ops Q (o :: rest) a w := by
  obtain ⟨i, hi, hz0, hz1, hz2⟩ := info_parts hrow
  refine wpListIn_plain hg fun K hK' => ?_
  obtain ⟨v', w', hrun, r1, r2, r3⟩ := run_append_new (P := P) w base t o.type e i z size bytes h1 hi hz0 hz1 hz2 h6 h7 v k xs hown ad m c news hn hc h1c b1 b2 b3
  unfold Oper.wpIn
  refine ⟨?_, ?_⟩
  · simp [Oper.about, hop, resolve, Target.leads, Sem.run_pure]
  · rw [Oper.semAt_plain F _ _ (by rw [hop]; intro c hc'; cases hc')]
    simp [execOp, hop, resolve, invoke, builtin, hs, hx, hrun, Result.andThen]
    exact hK' _ _ (hK v' w' r1 r2 r3)

theorem infoIntC : (Tryd.prog.info? 3).map (fun i => (i.zero, i.size, i.bytes)) = some (some (.int .i64 0), 1, 8) := by kernel_rfl

/-- The box of the slice, and what that owns. -/
def boxS (B : Nat) (W : World) (k : Nat) : Prop := k = B ∨ ∃ v, Boxed W B 28 v ∧ v.ownBlock = some k
theorem boxed_eq {W : World} {B : Nat} {t : TypeId} {v v' : Value} (h : Boxed W B t v) (h' : Boxed W B t v') : v = v' := by
  have := (show W.heap[B]? = _ from h).symm.trans (show W.heap[B]? = _ from h')
  simpa using this
theorem boxS_eq {W : World} {B : Nat} {v : Value} (h : Boxed W B 28 v) {k : Nat} : boxS B W k ↔ k = B ∨ v.ownBlock = some k := by
  unfold boxS
  constructor
  · rintro (e | ⟨v', h', e⟩)
    · exact .inl e
    · rw [boxed_eq h h']; exact .inr e
  · rintro (e | e)
    · exact .inl e
    · exact .inr ⟨v, h, e⟩

set_option maxRecDepth 100000 in
set_option maxHeartbeats 2000000 in
theorem slices_AppendSeq (w : World) (g : Nat) (lb : Array Value) (A : World → Prop) (xs : List Int) (eg : ∀ args w, (callFunc g args).run Tryd.prog w = .ok (.enter g args) w) (hseq : SeqR Tryd.prog g lb (fun i : Int => #[.int .i64 i]) A xs) (hA : ∀ W, Ch No w W → A W) (hx : xs.length ≤ 100000) :
    Calls Tryd.prog 33 #[.slice none 0 0, .func (.func g) #[] lb] w fun e w' => ∃ v, e = .returned v ∧ w'.ownsRow w.heap.size 3 1 v xs.length (xs.map (Value.int .i64)) ∧ Ch No w w' := by
  refine (callsIn_wide (n := 7)).1 ?_
  obtain ⟨B, hB⟩ : ∃ z, z = w.heap.size := ⟨_, rfl⟩
  obtain ⟨w2, hw2⟩ : ∃ z, z = w.alloc (.cells #[.slice none 0 0] 28) := ⟨_, rfl⟩
  have bx : Boxed w2 B 28 (.slice none 0 0) := by rw [hw2, hB]; exact Boxed.new w 28 (.slice none 0 0)
  have hc2 : Ch No w w2 := by rw [hw2]; exact (Ch.refl _ _).alloc _
  have hsz2 : w2.heap.size = B + 1 := by rw [hw2, hB]; simp
  refine callsIn_of_wp_marks Tryd.func33 rfl trivial ?_ rfl
  simp only [Tryd.ntmps33, List.size_toArray, List.length_cons, List.length_nil, Nat.reduceAdd, Nat.reduceSub, Array.replicate_succ, Array.replicate_zero, List.push_toArray, List.append_toArray, List.nil_append, List.cons_append]
  gi_wp2
  rw [← hw2, ← hB]
  have HB := Lib.hid hB
  have HW := Lib.hid hw2
  clear hB hw2
  refine wp_seqR (by omega) (gf := g) (lb := lb) rfl eg hseq (fun _ => rfl)
    (fun pre W => (∃ v, Boxed W B 28 v ∧ W.ownsRow w2.heap.size 3 1 v pre.length (pre.map (Value.int .i64)) ∧ True) ∧ Ch No w W) (boxS B)
    ?foot (fun pre W hi => hA W hi.2) ⟨⟨_, bx, World.ownsRow_nil _ _ _ _, trivial⟩, hc2⟩
    (fun i => { tmps := #[.slice none 0 0, .func (.func g) #[] lb, .pointer (some ⟨B, 0, none⟩), undef, .slice none 0 0, .int .i64 i, .func (.func g) #[] lb, .int .i64 i, undef, undef, undef, undef, undef], defers := [] }) ?assign ?body ?done
  case foot =>
    have hown : OwnFrom w2.heap.size (fun (pre : List Int) W => (∃ v, Boxed W B 28 v ∧ W.ownsRow w2.heap.size 3 1 v pre.length (pre.map (Value.int .i64)) ∧ True) ∧ Ch No w W) :=
      OwnFrom.and (Own.from (holdsRow_own w2.heap.size B 28 3 1 (fun pre : List Int => pre.length) (fun pre => pre.map (Value.int .i64)) (fun _ _ => True)) _) (ownFrom_ch (by have := HB.out; omega))
    refine ⟨hown, ?_, ?_⟩
    · rintro pre W k ⟨⟨v, hv, hr, _⟩, hc⟩ hk
      rcases (boxS_eq hv).1 hk with e | e
      · rw [e]; exact heap_lt hv
      · exact (hr.lt k e).2
    · rintro pre W W' row ⟨⟨v, hv, hr, _⟩, hc⟩ hg hrow k hk
      have hv' : Boxed W' B 28 v := hv.kept hg (fun e => by obtain ⟨_, o, ho, hcs⟩ := hrow B e.symm; rw [show W.heap[B]? = _ from hv] at ho; cases ho; cases hcs)
      exact (boxS_eq hv).2 ((boxS_eq hv').1 hk)
  case assign =>
    intro l x W K hK
    gi_wp2
    exact hK
  case body =>
    rintro l pre y rest W hxs hge ⟨⟨v, hv, hrow, _⟩, hcW⟩
    have hc := hv.cell
    have hpl : pre.length < 100000 := by
      have := congrArg List.length hxs
      simp at this
      omega
    gi_wp2_with (gi_at_builtin; go_loud (refine wpListIn_append_new _ rfl _ _ 28 rfl w2.heap.size 3 (.int .i64 0) 1 8 Tryd.underlying28 infoIntC rfl (by decide) _ _ _ rfl (hrow.alloc _) ⟨W.heap.size, 0, none⟩ 1 1 [.int .i64 y] rfl rfl (fun j u hj => by rw [Addr.add_lit, Nat.zero_add, World.cell?_alloc_new]; simpa using hj) (by simp [Value.oneCell']) (by unfold maxLen; omega) (by omega) (by simp; omega) ?_); intro v' w1 hown' hgrow hnew; go_loud (obtain ⟨g', cap', rfl⟩ := ownsRow_succ hown'); go_loud (have hBr : B < w2.heap.size := by omega); go_loud (have hvA := hv.alloc (.cells #[.int .i64 y] 3)); go_loud (have hv1 := hvA.kept hgrow (fun e => by have := (hrow.lt B e.symm).1; omega)); go_loud (have hr3 := hown'.kept (grownBy_setCell' w1 B (.slice (some ⟨g', 0, none⟩) (pre.length + 1) cap')) (.inr (fun e => by have := (hown'.lt B (by first | exact e | exact e.symm)).1; omega))); go_loud (have hc1 := hv1.cell); go_loud (have hf1 := hv1.frozen))
    have hv2 : Boxed (w1.setCell ⟨B, 0, none⟩ (.slice (some ⟨g', 0, none⟩) (pre.length + 1) cap')) B 28 (.slice (some ⟨g', 0, none⟩) (pre.length + 1) cap') := heap_set (i := 0) (show w1.heap[B]? = _ from hv1) _
    have hszA : W.heap.size + 1 ≤ w1.heap.size := by have := hgrow.size; simpa using this
    have hszS : (w1.setCell ⟨B, 0, none⟩ (.slice (some ⟨g', 0, none⟩) (pre.length + 1) cap')).heap.size = w1.heap.size := by simp
    refine ⟨⟨?_, ?_, ?_⟩, ⟨_, hv2, by simpa using hr3, trivial⟩, ?_⟩
    · rw [hszS]; omega
    · intro k o hk hn
      have hk1 : k ≠ B := fun e => hn ((boxS_eq hv).2 (.inl e))
      have hk2 : v.ownBlock ≠ some k := fun e => hn ((boxS_eq hv).2 (.inr e))
      have h1 := (hgrow.block k (by have := heap_lt hk; simp; omega) (fun e => hk2 e.symm)).trans (heap_al hk _)
      exact heap_set_ne h1 hk1 _
    · intro k hk
      rcases (boxS_eq hv2).1 hk with e | e
      · exact .inl ((boxS_eq hv).2 (.inl e))
      · rcases hnew k e with e | e
        · exact .inl ((boxS_eq hv).2 (.inr e))
        · exact .inr (by simp at e; omega)
    · refine ((hcW.alloc _).grown hgrow (fun k hk => .inl ?_)).setNew (p := ⟨B, 0, none⟩) (by have := HB.out; show w.heap.size ≤ B; omega) _
      have := (hrow.lt k hk).1
      have := HB.out
      omega
  case done =>
    rintro D W hD ⟨⟨v, hv, hrow, _⟩, hcW⟩ hK hS
    have hc := hv.cell
    gi_wp2
    refine ⟨by simp, .inl ⟨_, _, rfl, run_takeDeferred hK, ?_⟩⟩
    refine ⟨_, results_tmp rfl _ _ _, v, rfl, ?_, hcW.grown (grownBy_putObj' W D _) (fun k e => by cases e; exact .inl (by have := HB.out; omega))⟩
    exact ownsRow_base (ownsRow_putObj hrow _ hK rfl) (by have := HB.out; omega)
end Go.Proofs.YtinjbonodlkafaaDoor

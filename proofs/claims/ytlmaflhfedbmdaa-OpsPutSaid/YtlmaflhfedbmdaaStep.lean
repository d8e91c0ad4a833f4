/- An append at a step of a region that draws its order (for go_region_held3's third argument). No program text. -/
import Derived.Test.YtlmaflhfedbmdaaKit
import Derived.Deep.AppendLies
set_option linter.unusedVariables false
set_option linter.unusedSimpArgs false
namespace Go.Proofs.Ytlmaflhfedbmdaa
open Go Go.RowKit

/-- 'append(s, y)', s the call's own; y has just been laid into a block of its own. -/
theorem step_push {α : Type} {P : Program} {w : World} {ops : Array Oper} {o : Oper} {a : Act} {K : Act → World → Prop} {Q : Exit → Act → World → Prop} {E : Prop}
    (hg : o.guard = none) (s x : Operand) (t : TypeId) (hop : o.op = .call { callee := .builtin .append, args := #[s, x], argTypes := #[t, t] })
    (base : Nat) (e : TypeId) (z : Value) (size bytes : Nat) (h1 : P.underlying t = some (.slice e))
    (hrow : (P.info? e).map (fun i => (i.zero, i.size, i.bytes)) = some (some z, size, bytes)) (hzs : z.cells.size = size) (hsz : 0 < size)
    (er : Rp α) (hen : er.n = size) (F : Nat → Prop) (v : Value) (l : List α) (hs : a.eval s = v) (hown : OwnR er base e F w v l)
    (cs : List Value) (T : TypeId) (y : α) (c : Nat) (hx : a.eval x = .slice (some ⟨w.heap.size, 0, none⟩) 1 c) (hy : er.R (fun k => F k ∨ v.ownBlock = some k) w cs y) (hF : ∀ k, F k → k < base)
    (h63 : l.length + 1 ≤ 9223372036854775807) (hbytes : (l.length + 1) * bytes ≤ 140737488355328) (hbase : base ≤ w.heap.size)
    (h : ∀ v' w', OwnR er base e F w' v' (l ++ [y]) → (∀ (F0 : Nat → Prop) (W : World), W.heap.size ≤ base → Ch F0 W w → Ch F0 W w') → Ch (fun k => v.ownBlock = some k) w w' → K (a.put o.dst v') w') :
    if Region.wanted o (yielded ops a.tmps) = true then Oper.wp P o a (w.alloc (.cells cs.toArray T)) K Q else E := by
  have hw : Region.wanted o (yielded ops a.tmps) = true := by simp [Region.wanted, hg]
  rw [if_pos hw]
  subst hen
  obtain ⟨xs, hrw, hr⟩ := hown
  have hlen := er.len hy
  obtain ⟨i, hi, hz0, hz1, hz2⟩ := info_parts hrow
  obtain ⟨v', w', hrun, h2, h3, hold⟩ := run_append_new (P := P) (w.alloc (.cells cs.toArray T)) base t o.type e i z er.n bytes h1 hi hz0 hz1 hz2 hzs hsz v l.length xs (hrw.alloc _) ⟨w.heap.size, 0, none⟩ 1 c cs (by omega)
    (fun j u hj => by rw [Addr.add_lit, Nat.zero_add, World.cell?_alloc_new]; simpa using hj) (er.one hy) (by unfold maxLen; omega) hbytes (by simp; omega)
  have hc0 : Ch No w (w.alloc (.cells cs.toArray T)) := (Ch.refl _ _).alloc _
  have hfin := h v' w' (OwnR.push (w := w.alloc (.cells cs.toArray T)) (fun i hi => er.tr (hr i hi) (fun k hk hn => hc0.block k hk (fun q => q)) hc0.size (fun k hk => .inl hk)) hrw.1 (er.tr hy (fun k hk hn => hc0.block k hk (fun q => q)) hc0.size (fun k hk => .inl hk)) h3 h2 hold)
    (fun F0 W hW hc => grown_ch (hrw.alloc _) h3 F0 W hW (hc.alloc _)) (((Ch.refl _ _).alloc _).grown h3 (fun k hk => .inr hk))
  unfold Oper.wp execOp
  simp only [hop, resolve, invoke, builtin, Sem.run_bind, Sem.run_pure, Result.andThen_ok, List.map_toArray, List.map_cons, List.map_nil, hs, hx, hrun]
  exact hfin
/-- The same, behind the region's draw (the walk writes the draw outside). -/
theorem step_push_drew {α : Type} {P : Program} {w : World} {ops : Array Oper} {o : Oper} {a : Act} {K : Act → World → Prop} {Q : Exit → Act → World → Prop} {E : Prop}
    (hg : o.guard = none) (s x : Operand) (t : TypeId) (hop : o.op = .call { callee := .builtin .append, args := #[s, x], argTypes := #[t, t] })
    (base : Nat) (e : TypeId) (z : Value) (size bytes : Nat) (h1 : P.underlying t = some (.slice e))
    (hrow : (P.info? e).map (fun i => (i.zero, i.size, i.bytes)) = some (some z, size, bytes)) (hzs : z.cells.size = size) (hsz : 0 < size)
    (er : Rp α) (hen : er.n = size) (F : Nat → Prop) (v : Value) (l : List α) (hs : a.eval s = v) (hown : OwnR er base e F w.drew v l)
    (cs : List Value) (T : TypeId) (y : α) (c : Nat) (hx : a.eval x = .slice (some ⟨w.heap.size, 0, none⟩) 1 c) (hy : er.R (fun k => F k ∨ v.ownBlock = some k) w.drew cs y) (hF : ∀ k, F k → k < base)
    (h63 : l.length + 1 ≤ 9223372036854775807) (hbytes : (l.length + 1) * bytes ≤ 140737488355328) (hbase : base ≤ w.heap.size)
    (h : ∀ v' w', OwnR er base e F w' v' (l ++ [y]) → (∀ (F0 : Nat → Prop) (W : World), W.heap.size ≤ base → Ch F0 W w.drew → Ch F0 W w') → Ch (fun k => v.ownBlock = some k) w.drew w' → K (a.put o.dst v') w') :
    if Region.wanted o (yielded ops a.tmps) = true then Oper.wp P o a (w.alloc (.cells cs.toArray T)).drew K Q else E :=
  step_push (w := w.drew) hg s x t hop base e z size bytes h1 hrow hzs hsz er hen F v l hs hown cs T y c hx hy hF h63 hbytes hbase h
end Go.Proofs.Ytlmaflhfedbmdaa

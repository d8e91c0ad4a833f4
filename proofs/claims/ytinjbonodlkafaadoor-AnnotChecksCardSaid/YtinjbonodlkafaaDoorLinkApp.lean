/- Appends and new rows as steps of a region that draws its order (XLink). No program text. -/
import Derived.Test.YtinjbonodlkafaaDoorLink
set_option linter.unusedVariables false
set_option linter.unusedSimpArgs false
namespace Go.Proofs.YtinjbonodlkafaaDoor
open Go Go.RowKit

/-- Rows of at most n elements are kept. -/
def RowsKept (base : Nat) (e : TypeId) (size n : Nat) (w w' : World) : Prop := ∀ u m ys, m ≤ n → w.ownsRow base e size u m ys → w'.ownsRow base e size u m ys
theorem RowsKept.ch0 {base : Nat} {e : TypeId} {size n : Nat} {w w' : World} (hc : Ch No w w') : RowsKept base e size n w w' := by
  rintro u m ys _ ⟨h1, h2⟩
  refine ⟨h1, ?_⟩
  rcases h2 with h | ⟨g, cap, cur, hu, hg, hh, rest⟩
  · exact .inl h
  · exact .inr ⟨g, cap, cur, hu, hg, hc.heap hh (fun q => q), rest⟩
theorem RowsKept.one {base : Nat} {e : TypeId} {size n b : Nat} {w w' : World} (hc : Ch (One b) w w') (hb : b < base) : RowsKept base e size n w w' := by
  rintro u m ys _ ⟨h1, h2⟩
  refine ⟨h1, ?_⟩
  rcases h2 with h | ⟨g, cap, cur, hu, hg, hh, rest⟩
  · exact .inl h
  · exact .inr ⟨g, cap, cur, hu, hg, hc.heap hh (fun q => by have : g = b := q; omega), rest⟩

theorem exec_append {α : Type} {P : Program} {w : World} {o : Oper} {ρ : Operand → Value} (s x : Operand) (t : TypeId) (hop : o.op = .call { callee := .builtin .append, args := #[s, x], argTypes := #[t, t] })
    (base : Nat) (e : TypeId) (z : Value) (size bytes : Nat) (h1 : P.underlying t = some (.slice e))
    (hrow : (P.info? e).map (fun i => (i.zero, i.size, i.bytes)) = some (some z, size, bytes)) (hzs : z.cells.size = size) (hsz : 0 < size)
    (er : Rp α) (hen : er.n = size) (F : Nat → Prop) (v : Value) (l : List α) (hs : ρ s = v) (hown : OwnR er base e F w v l)
    (ad : Option Addr) (c : Nat) (l2 : List α) (hx : ρ x = .slice ad l2.length c) (hl2 : SlR er (fun k => F k ∨ v.ownBlock = some k) w ad c l2)
    (h63 : l.length + l2.length ≤ 9223372036854775807) (hbytes : (l.length + l2.length) * bytes ≤ 140737488355328) (hbase : base ≤ w.heap.size) :
    ∃ v' w', (execOp ρ o).run P w = .ok (.value v') w' ∧ OwnR er base e F w' v' (l ++ l2) ∧ Ch (fun k => v.ownBlock = some k) w w' ∧ (∀ k, v'.ownBlock = some k → v.ownBlock = some k ∨ w.heap.size ≤ k) ∧ RowsKept base e size l.length w w' := by
  subst hen
  obtain ⟨xs, hrw, hr⟩ := hown
  obtain ⟨i, hi, hz0, hz1, hz2⟩ := info_parts hrow
  have hexec : ∀ v' w' X, ρ x = X → (Builtin.append_ #[t, t] o.type #[v, X]).run P w = .ok v' w' → (execOp ρ o).run P w = .ok (.value v') w' := by
    intro v' w' X hX hrun
    unfold execOp
    simp only [hop, resolve, invoke, builtin, Sem.run_bind, Sem.run_pure, Result.andThen_ok, List.map_toArray, List.map_cons, List.map_nil, hs, hX, hrun]
  by_cases hnil : ad = none
  · subst hnil
    have hc0 := hl2.nil rfl
    have hle := hl2.le
    obtain rfl : l2 = [] := List.eq_nil_of_length_eq_zero (by omega)
    subst hc0
    have hrun := run_append_owned_none (P := P) (w := w) base t o.type e i er.n h1 hi v l.length xs hrw
    refine ⟨v, w, hexec v w _ hx hrun, by rw [List.append_nil]; exact ⟨xs, hrw, hr⟩, Ch.refl _ _, fun k hk => .inl hk, RowsKept.ch0 (Ch.refl _ _)⟩
  · obtain ⟨p, rfl⟩ := Option.ne_none_iff_exists'.1 hnil
    obtain ⟨news, n1, n2, n3, n4⟩ := hl2.cells
    have hnews : ∀ j u, news[j]? = some u → w.cell? (p.add j) = some u := by
      intro j u hj
      have hm : 0 < l2.length := by
        have := (List.getElem?_eq_some_iff.1 hj).1
        rw [n1] at this
        exact Nat.pos_of_ne_zero (fun h0 => by rw [h0] at this; simp at this)
      obtain ⟨b, off, ha, _, _, hc⟩ := n2 hm
      cases ha
      rw [Addr.add_lit]
      exact hc j u hj
    have key : ∃ v' w', (Builtin.append_ #[t, t] o.type #[v, .slice (some p) l2.length c]).run P w = .ok v' w' ∧ w'.ownsRow base e er.n v' (l.length + l2.length) (xs ++ news) ∧ w.grownBy w' v.ownBlock ∧ (∀ k, v'.ownBlock = some k → v.ownBlock = some k ∨ w.heap.size ≤ k) ∧ RowsKept base e er.n l.length w w' := by
      rcases hrw.2 with ⟨hv, hn0⟩ | ⟨g, cap, cur, hv, hbg, hg, hnc, hcm, hcs, htake⟩
      · obtain ⟨v', w', r1, r2, r3, r4⟩ := run_append_new (P := P) w base t o.type e i z er.n bytes h1 hi hz0 hz1 hz2 hzs hsz v l.length xs hrw p l2.length c news n1 hnews n3 (by unfold maxLen; omega) hbytes hbase
        refine ⟨v', w', r1, r2, r3, r4, RowsKept.ch0 ⟨r3.os, r3.tape, r3.output, r3.size, fun k hk _ => r3.block k hk (by rw [hv]; simp [Value.ownBlock])⟩⟩
      · by_cases hroom : l.length + l2.length ≤ cap
        · subst hv
          obtain ⟨w', r1, r2, r3⟩ := run_append_fits (P := P) w base t o.type e i er.n h1 hi hz1 g l.length cap xs hrw p l2.length c news n1 hnews n3 hroom
          refine ⟨_, w', r1, r2, r3, fun k hk => .inl hk, ?_⟩
          rintro u m ys hm ⟨a1, a2⟩
          refine ⟨a1, ?_⟩
          rcases a2 with h | ⟨g', cap', cur', hu, hg', hh', hm', hcm', hcs', htk'⟩
          · exact .inl h
          · by_cases hgg : g' = g
            · subst hgg
              have hcur : cur' = cur := by rw [hg] at hh'; cases hh'; rfl
              subst hcur
              have hcc : cap' = cap := Nat.eq_of_mul_eq_mul_right hsz (hcs'.symm.trans hcs)
              subst hcc
              rcases r2.2 with ⟨h, _⟩ | ⟨g2, cap2, cur2, hv2, _, hg2, _, _, hcs2, htk2⟩
              · cases h
              · cases hv2
                refine .inr ⟨_, _, cur2, hu, hg', hg2, hm', hcm', hcs2, ?_⟩
                have hmle : m * er.n ≤ l.length * er.n := Nat.mul_le_mul_right _ hm
                have e1 : cur2.toList.take (m * er.n) = (cur2.toList.take ((l.length + l2.length) * er.n)).take (m * er.n) := by
                  rw [List.take_take, Nat.min_eq_left]
                  rw [Nat.add_mul]; omega
                rw [e1, htk2, List.take_append_of_le_length (by rw [hrw.1]; exact hmle), ← htake, List.take_take, Nat.min_eq_left hmle]
                exact htk'
            · exact .inr ⟨g', cap', cur', hu, hg', (r3.block g' (heap_lt hh') (fun q => hgg (by simpa [Value.ownBlock] using q))).trans hh', hm', hcm', hcs', htk'⟩
        · subst hv
          obtain ⟨v', w', r1, r2, r3⟩ := run_append_arg_grows (P := P) w t o.type e i z er.n bytes h1 hi hz0 hz1 hz2 hzs hsz ⟨g, 0, none⟩ l.length cap xs hrw.1 (hrw.cells (g := g) rfl) p l2.length c news n1 hnews (by omega) (by unfold maxLen; omega) hbytes
          have hc0 : Ch No w w' := ⟨r3.os, r3.tape, r3.output, r3.size, fun k hk _ => r3.block k hk (by simp)⟩
          refine ⟨v', w', r1, ownsRow_base r2 hbase, ⟨r3.os, r3.tape, r3.output, r3.size, fun k hk _ => r3.block k hk (by simp)⟩, fun k hk => .inr (r2.lt k hk).1, RowsKept.ch0 hc0⟩
    obtain ⟨v', w', hrun, ho, hg', hk, hrk⟩ := key
    refine ⟨v', w', hexec v' w' _ hx hrun, ⟨xs ++ news, by simpa using ho, fun i hi => ?_⟩, (Ch.refl _ _).grown hg' (fun k hk => .inr hk), hk, hrk⟩
    have tr : ∀ {cs : List Value} {y : α}, er.R (fun k => F k ∨ v.ownBlock = some k) w cs y → er.R (fun k => F k ∨ v'.ownBlock = some k) w' cs y := fun h =>
      er.tr h (fun k hk hn => hg'.block k hk (fun q => hn (.inr q.symm))) hg'.size (fun k hk' => by
        rcases hk' with hk' | hk'
        · exact .inl (.inl hk')
        · rcases hk k hk' with q | q
          · exact .inl (.inr q)
          · exact .inr q)
    have hlen := hrw.1
    by_cases hlt : i < l.length
    · rw [List.getElem_append_left hlt]
      have hm : (i + 1) * er.n ≤ l.length * er.n := Nat.mul_le_mul_right _ hlt
      rw [Nat.add_mul, Nat.one_mul] at hm
      have : ((xs ++ news).drop (i * er.n)).take er.n = (xs.drop (i * er.n)).take er.n := by
        rw [List.drop_append_of_le_length (by omega), List.take_append_of_le_length (by simp; omega)]
      rw [this]
      exact tr (hr i hlt)
    · have hi2 : i - l.length < l2.length := by simp at hi; omega
      rw [List.getElem_append_right (by omega)]
      have : ((xs ++ news).drop (i * er.n)).take er.n = (news.drop ((i - l.length) * er.n)).take er.n := by
        have h0 : l.length * er.n ≤ i * er.n := Nat.mul_le_mul_right _ (by omega)
        rw [List.drop_append, List.drop_of_length_le (by omega), List.nil_append, hlen, Nat.sub_mul]
      rw [this]
      exact tr (n4 _ hi2)
end Go.Proofs.YtinjbonodlkafaaDoor

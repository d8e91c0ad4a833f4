/- 'for k, v := range m' over a map that the loop does not write, the iterator in whichever block: what is handed out is told by keys. No program text. -/
import Derived.Test.YtdmhenanikkabaaDoorMaps
import Derived.Laws.IdiomRangeMap
set_option linter.unusedVariables false
set_option linter.unusedSimpArgs false
namespace Go.Proofs.YtdmhenanikkabaaDoor
open Go Go.RowKit

/-- Block r is an iterator of the map in block m, whose entries are al; it has handed out the keys 'done'. -/
structure IterAt (w : World) (r m : Nat) (al : AL) (done : List Int) : Prop where
  nodup : (aKeys al).Nodup
  obj : ∃ es clock since c0 seen, w.heap[r]? = some (.mapIter (some m) since seen c0) ∧ w.heap[m]? = some (.map es clock) ∧ es.toList.map (fun e => (e.key, e.val)) = al.map (fun x => (Value.int .i64 x.1, x.2)) ∧
    (∀ e ∈ es.toList, e.born < since) ∧ (es.toList.map (·.born)).Nodup ∧ since ≤ c0 ∧ c0 ≤ clock ∧ (∀ e ∈ es.toList, ∀ k, e.key = .int .i64 k → (seen.contains e.born = true ↔ k ∈ done)) ∧
    (∀ k rest, done = k :: rest → c0 = clock ∧ ∃ e ∈ es.toList, e.key = .int .i64 k ∧ seen.back? = some e.born) ∧ seen.size = done.length

theorem IterAt.ch {w w' : World} {r m : Nat} {al : AL} {done : List Int} (h : IterAt w r m al done) {F : Nat → Prop} (hc : Ch F w w') (hr : ¬ F r) (hm : ¬ F m) : IterAt w' r m al done := by
  obtain ⟨hn, es, c, s, c0, seen, hh, hh2, rest⟩ := h
  exact ⟨hn, es, c, s, c0, seen, hc.heap hh hr, hc.heap hh2 hm, rest⟩
theorem IterAt.lt {w : World} {r m : Nat} {al : AL} {done : List Int} (h : IterAt w r m al done) : r < w.heap.size := by obtain ⟨_, es, c, s, c0, seen, hh, _⟩ := h; exact heap_lt hh

theorem IterAt.seen {w : World} {r m : Nat} {al : AL} {done : List Int} (h : IterAt w r m al done) : (w.iterSeen r).size = done.length := by
  obtain ⟨_, es, c, s, c0, seen, hh, _, _, _, _, _, _, _, _, hs⟩ := h
  unfold World.iterSeen
  rw [hh]
  exact hs
/-- Some of the keys, each once, are no more than all. -/
theorem sub_length {α : Type} [DecidableEq α] : ∀ (l k : List α), l.Nodup → (∀ x ∈ l, x ∈ k) → l.length ≤ k.length
  | [], k, _, _ => Nat.zero_le _
  | x :: l, k, hn, h => by
    have hn' := List.nodup_cons.1 hn
    have hx := h x (by simp)
    have ih := sub_length l (k.erase x) hn'.2 (fun y hy => (List.mem_erase_of_ne (by rintro rfl; exact hn'.1 hy)).2 (h y (by simp [hy])))
    have := List.length_erase_of_mem hx
    have hpos := List.length_pos_of_mem hx
    simp only [List.length_cons]
    omega
theorem aKeys_length (al : AL) : (aKeys al).length = al.length := by simp [aKeys]

/-- 'range': a new iterator. -/
theorem run_range_al {P : Program} {w : World} {m : Nat} {al : AL} {t k e : TypeId} (ht : P.underlying t = some (.map k e)) (h : MapAt w m al) :
    ∃ w', (Instr.range t (.map (some m))).run P w = .ok (.pointer (some ⟨w.heap.size, 0, none⟩)) w' ∧ IterAt w' w.heap.size m al [] ∧ Ch No w w' ∧ w'.heap.size = w.heap.size + 1 := by
  obtain ⟨hn, es, c, hh, hes, hb, hbn⟩ := h
  refine ⟨_, run_range_map w t k e m es c ht hh, ⟨hn, es, c, c, c, #[], heap_alloc_new w _, by rw [heap_alloc_old w _ (heap_lt hh)]; exact hh, hes, hb, hbn, Nat.le_refl _, Nat.le_refl _, fun e he k hk => by simp, (fun k rest h => by cases h), rfl⟩, (Ch.refl _ _).alloc _, by simp⟩

theorem key_of {es : List MapEntry} {al : AL} (h : es.map (fun e => (e.key, e.val)) = al.map (fun x => (Value.int .i64 x.1, x.2))) {e : MapEntry} (he : e ∈ es) : ∃ x ∈ al, e.key = .int .i64 x.1 ∧ e.val = x.2 := by
  have : (e.key, e.val) ∈ es.map (fun e => (e.key, e.val)) := List.mem_map.2 ⟨e, he, rfl⟩
  rw [h] at this
  obtain ⟨x, hx, hxe⟩ := List.mem_map.1 this
  have h1 := congrArg Prod.fst hxe
  have h2 := congrArg Prod.snd hxe
  exact ⟨x, hx, h1.symm, h2.symm⟩
theorem entry_of {es : List MapEntry} {al : AL} (h : es.map (fun e => (e.key, e.val)) = al.map (fun x => (Value.int .i64 x.1, x.2))) {x : Int × Value} (hx : x ∈ al) : ∃ e ∈ es, e.key = .int .i64 x.1 ∧ e.val = x.2 := by
  have : (Value.int .i64 x.1, x.2) ∈ al.map (fun x => (Value.int .i64 x.1, x.2)) := List.mem_map.2 ⟨x, hx, rfl⟩
  rw [← h] at this
  obtain ⟨e, he, hxe⟩ := List.mem_map.1 this
  have h1 := congrArg Prod.fst hxe
  have h2 := congrArg Prod.snd hxe
  exact ⟨e, he, h1, h2⟩
theorem aGet_of_mem {al : AL} (hn : (aKeys al).Nodup) {x : Int × Value} (hx : x ∈ al) : aGet al x.1 = some x.2 := by
  induction al with
  | nil => cases hx
  | cons y r ih =>
    obtain ⟨j, v⟩ := y
    simp only [aKeys, List.map_cons, List.nodup_cons] at hn
    rcases List.mem_cons.1 hx with rfl | hx'
    · simp [aGet]
    · have hne : j ≠ x.1 := by rintro rfl; exact hn.1 (List.mem_map.2 ⟨x, hx', rfl⟩)
      simp only [aGet, if_neg hne]
      exact ih hn.2 hx'

theorem key_inj {es : List MapEntry} {al : AL} (h : es.map (fun e => (e.key, e.val)) = al.map (fun x => (Value.int .i64 x.1, x.2))) (hn : (aKeys al).Nodup) {e e' : MapEntry} (he : e ∈ es) (he' : e' ∈ es) {k : Int} (hk : e.key = .int .i64 k) (hk' : e'.key = .int .i64 k) : e = e' := by
  have hkeys : (es.map (·.key)).Nodup := by
    have : es.map (·.key) = (aKeys al).map (Value.int .i64) := by
      have := congrArg (List.map Prod.fst) h
      simpa [aKeys, List.map_map, Function.comp_def] using this
    rw [this]
    exact List.Pairwise.map _ (fun a b hab => by intro e; cases e; exact hab rfl) hn
  obtain ⟨i, hi, rfl⟩ := List.getElem_of_mem he
  obtain ⟨j, hj, rfl⟩ := List.getElem_of_mem he'
  have hii : (es.map (·.key))[i]'(by simpa using hi) = (es.map (·.key))[j]'(by simpa using hj) := by simp [hk, hk']
  have hpw := List.pairwise_iff_getElem.1 hkeys
  rcases Nat.lt_trichotomy i j with q | q | q
  · exact absurd hii (hpw i j (by simpa using hi) (by simpa using hj) q)
  · subst q; rfl
  · exact absurd hii.symm (hpw j i (by simpa using hj) (by simpa using hi) q)

/-- 'next': all is done, or one that was not done comes out. -/
theorem run_next_al {P : Program} {w : World} {r m : Nat} {al : AL} {done : List Int} (h : IterAt w r m al done) (ty : TypeId) :
    ((∀ k ∈ aKeys al, k ∈ done) ∧ (Instr.next (.pointer (some ⟨r, 0, none⟩)) false ty).run P w = .ok (.tuple #[.bool false]) w) ∨
    ∃ k v w', aGet al k = some v ∧ k ∉ done ∧ (Instr.next (.pointer (some ⟨r, 0, none⟩)) false ty).run P w = .ok (.tuple #[.bool true, .int .i64 k, v]) w' ∧ IterAt w' r m al (k :: done) ∧ Ch (One r) w w' ∧ (r ≠ m → MapAt w m al → MapAt w' m al) := by
  obtain ⟨hn, es, clock, since, c0, seen, hr, hb, hes, hold, hbn, hsc, hcc, hseen, _, hsz⟩ := h
  have hrm : r ≠ m := by rintro rfl; rw [hr] at hb; cases hb
  simp only [Instr.next, getObj, Sem.run_bind, Sem.run, hr, hb, Result.andThen, next_test_false seen es since c0 hold hsc, Bool.false_eq_true, if_false]
  have hmem : ∀ x ∈ (Array.filter (fun e => !seen.contains e.born) es).toList, x ∈ es.toList ∧ seen.contains x.born = false := fun x hx => mem_left hx
  have hall : (Array.filter (fun e => !seen.contains e.born) es).size = 0 → ∀ x ∈ es.toList, seen.contains x.born = true := all_seen es seen
  generalize Array.filter (fun e => !seen.contains e.born) es = L at hmem hall ⊢
  have e1 : L.filter (fun x => decide (x.born < since)) = L := Array.filter_eq_self.2 (fun x hx => by simpa using hold x (hmem x (by simpa using hx)).1)
  have e2 : L.filter (fun x => decide (x.born ≥ since)) = #[] := by
    rw [Array.filter_eq_empty_iff]
    intro x hx
    have := hold x (hmem x (by simpa using hx)).1
    simp
    omega
  simp only [e1, e2, Array.append_empty]
  by_cases h0 : L.size = 0
  · left
    refine ⟨fun k hk => ?_, ?_⟩
    · obtain ⟨x, hx, rfl⟩ := List.mem_map.1 hk
      obtain ⟨e, he, hek, _⟩ := entry_of hes hx
      exact (hseen e he _ hek).1 (hall h0 e he)
    · have : L = #[] := Array.eq_empty_of_size_eq_zero h0
      subst this
      simp [choose, Sem.run, Question.forced]
  · right
    have hne : L.isEmpty = false := by simp [Array.isEmpty, h0]
    simp only [hne, Bool.false_eq_true, if_false, Array.empty_append, Array.size_map]
    have hch : ∃ (j : Nat) (w1 : World), j < L.size ∧ w1.Alike w ∧ (choose (Question.mapNext L.size)).run P w = .ok j w1 := by
      by_cases hf : L.size ≤ 1
      · exact ⟨0, w, by omega, ⟨rfl, rfl, rfl⟩, by simp [choose, Sem.run, Question.forced, hf]⟩
      · exact ⟨_, w.drew, Nat.mod_lt _ (by omega), ⟨rfl, rfl, rfl⟩, by
          simp only [choose, Sem.run, Question.forced, decide_eq_true_eq, hf, if_false, Question.cut]
          rfl⟩
    obtain ⟨j, w1, hj, hal, hrun⟩ := hch
    have hw1 : Ch No w w1 ∧ w1.heap = w.heap := by
      by_cases hf : L.size ≤ 1
      · have : w1 = w := by
          have := hrun
          simp [choose, Sem.run, Question.forced, hf] at this
          exact this.2.symm
        subst this
        exact ⟨Ch.refl _ _, rfl⟩
      · have : w1 = w.drew := by
          have := hrun
          simp only [choose, Sem.run, Question.forced, decide_eq_true_eq, hf, if_false, Question.cut] at this
          injection this with _ h2
          exact h2.symm
        subst this
        exact ⟨(Ch.refl _ _).drew, rfl⟩
    have hLj : L[j] ∈ es.toList ∧ seen.contains L[j].born = false := hmem _ (by simp)
    obtain ⟨x, hx, hxk, hxv⟩ := key_of hes hLj.1
    have hr1 : w1.heap[r]? = some (.mapIter (some m) since seen c0) := by rw [hw1.2]; exact hr
    have hb1 : w1.heap[m]? = some (.map es clock) := by rw [hw1.2]; exact hb
    have hset : (setObj r (.mapIter (some m) since (seen.push L[j].born) clock)).run P w1 = .ok () (World.putObj w1 r (.mapIter (some m) since (seen.push L[j].born) clock)) :=
      run_setMap hr1 (fun _ _ _ e => by cases e)
    have hb2 : (World.putObj w1 r (.mapIter (some m) since (seen.push L[j].born) clock)).heap[m]? = some (.map es clock) := by
      unfold World.putObj
      show (w1.heap.setIfInBounds r _)[m]? = _
      rw [Array.getElem?_setIfInBounds_ne hrm]
      exact hb1
    refine ⟨x.1, x.2, _, aGet_of_mem hn hx, ?_, ?_, ⟨hn, es, clock, since, clock, seen.push L[j].born, putObj_at (heap_lt hr1) _, hb2, hes, hold, hbn, by omega, Nat.le_refl _, ?_, (fun k rest h => by cases h; exact ⟨rfl, L[j], hLj.1, hxk, by simp⟩), by simp [hsz]⟩, (hw1.1.ofNo).trans (putObj_ch _ _ _), ?_⟩
    · intro hd
      have := (hseen _ hLj.1 _ hxk).2 hd
      rw [hLj.2] at this
      cases this
    · simp only [hrun, Array.getElem?_map, Array.getElem?_eq_getElem hj, Option.map_some, Sem.run_bind, hset, Result.andThen, hxk, hxv]
      rfl
    · intro e he k hk
      rw [contains_push]
      by_cases hek : e.born = L[j].born
      · have : e = L[j] := born_inj hbn he hLj.1 hek
        subst this
        rw [hk] at hxk
        cases hxk
        simp
      · have h2 : (e.born == L[j].born) = false := by simpa using hek
        rw [h2, Bool.or_false, hseen e he k hk, List.mem_cons]
        constructor
        · exact .inr
        · rintro (rfl | q)
          · exact absurd (congrArg MapEntry.born (key_inj hes hn he hLj.1 hk hxk)) hek
          · exact q
    · rintro _ ⟨_, es', c', hh', rest⟩
      rw [hb] at hh'
      cases hh'
      exact ⟨hn, es, clock, hb2, rest⟩
/-- The key and the value that the last step has handed out. -/
theorem run_entry_al {P : Program} {w : World} {r m : Nat} {al : AL} {k : Int} {done : List Int} (h : IterAt w r m al (k :: done)) :
    ∃ v, aGet al k = some v ∧ (Instr.entry (.pointer (some ⟨r, 0, none⟩))).run P w = .ok (.tuple #[.int .i64 k, v]) w := by
  obtain ⟨hn, es, clock, since, c0, seen, hr, hb, hes, hold, hbn, hsc, hcc, hseen, hlast, _⟩ := h
  obtain ⟨rfl, e, he, hek, hback⟩ := hlast k done rfl
  obtain ⟨x, hx, hxk, hxv⟩ := key_of hes he
  rw [hek] at hxk
  cases hxk
  have hf : es.find? (·.born == e.born) = some e := by rw [← Array.find?_toList]; exact find_born e es.toList hbn he
  refine ⟨x.2, aGet_of_mem hn hx, ?_⟩
  simp only [Instr.entry, getObj, Sem.run_bind, Sem.run, hr, hb, Result.andThen, hback, bne_self_eq_false, Bool.false_eq_true, if_false, hf, hek, hxv]
  rfl
end Go.Proofs.YtdmhenanikkabaaDoor

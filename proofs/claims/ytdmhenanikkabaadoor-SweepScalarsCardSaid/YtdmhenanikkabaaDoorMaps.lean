/- Maps with whole numbers for keys: what a map in memory is, and what lookup, update, delete and len do. No program text. -/
import Derived.Test.YtdmhenanikkabaaDoorKit
import Derived.WideMake
import Derived.Lib.MinMax
set_option linter.unusedVariables false
set_option linter.unusedSimpArgs false
namespace Go.Proofs.YtdmhenanikkabaaDoor
open Go Go.RowKit

attribute [go_sem] run_makeMap_plain

/-- A map's entries, as a list of pairs. -/
abbrev AL := List (Int × Value)
def aGet : AL → Int → Option Value
  | [], _ => none
  | (k, v) :: r, q => if k = q then some v else aGet r q
def aSet : AL → Int → Value → AL
  | [], q, u => [(q, u)]
  | (k, v) :: r, q, u => if k = q then (k, u) :: r else (k, v) :: aSet r q u
def aDel : AL → Int → AL
  | [], _ => []
  | (k, v) :: r, q => if k = q then r else (k, v) :: aDel r q
def aKeys (l : AL) : List Int := l.map (·.1)

theorem aGet_set (l : AL) (k q : Int) (v : Value) : aGet (aSet l k v) q = if q = k then some v else aGet l q := by
  induction l with
  | nil =>
    simp only [aSet, aGet]
    by_cases h : k = q
    · subst h; simp
    · rw [if_neg h, if_neg (fun e => h e.symm)]
  | cons x r ih =>
    obtain ⟨j, u⟩ := x
    simp only [aSet]
    by_cases h : j = k
    · subst h
      rw [if_pos rfl]
      simp only [aGet]
      by_cases hq : j = q
      · subst hq; simp
      · rw [if_neg hq, if_neg hq, if_neg (fun e => hq e.symm)]
    · rw [if_neg h]
      simp only [aGet]
      by_cases hq : j = q
      · subst hq; rw [if_pos rfl, if_pos rfl, if_neg h]
      · rw [if_neg hq, if_neg hq, ih]
theorem aKeys_mem {l : AL} {k : Int} : k ∈ aKeys l ↔ (aGet l k).isSome = true := by
  induction l with
  | nil => simp [aKeys, aGet]
  | cons x r ih =>
    obtain ⟨j, u⟩ := x
    simp only [aKeys, List.map_cons, List.mem_cons, aGet] at ih ⊢
    by_cases h : j = k
    · subst h; simp
    · rw [if_neg h, ← ih]; exact ⟨fun q => q.resolve_left (fun e => h e.symm), .inr⟩
theorem aGet_none {l : AL} {k : Int} (h : k ∉ aKeys l) : aGet l k = none := by
  cases e : aGet l k with
  | none => rfl
  | some v => exact absurd (aKeys_mem.2 (by rw [e]; rfl)) h
theorem aKeys_set (l : AL) (k : Int) (v : Value) : aKeys (aSet l k v) = if (aGet l k).isSome then aKeys l else aKeys l ++ [k] := by
  induction l with
  | nil => simp [aSet, aGet, aKeys]
  | cons x r ih =>
    obtain ⟨j, u⟩ := x
    by_cases h : j = k
    · subst h; simp [aKeys, aSet, aGet]
    · have e1 : aGet ((j, u) :: r) k = aGet r k := by simp [aGet, h]
      have e2 : aKeys (aSet ((j, u) :: r) k v) = j :: aKeys (aSet r k v) := by simp [aSet, h, aKeys]
      rw [e1, e2, ih]
      split <;> simp [aKeys]
theorem aSet_nodup {l : AL} (h : (aKeys l).Nodup) (k : Int) (v : Value) : (aKeys (aSet l k v)).Nodup := by
  rw [aKeys_set]
  split
  · exact h
  · rename_i hn
    rw [List.nodup_append]
    refine ⟨h, by simp, ?_⟩
    intro a ha b hb
    simp at hb
    subst hb
    rintro rfl
    exact hn (aKeys_mem.1 ha)
theorem aDel_keys (l : AL) (k : Int) (h : (aKeys l).Nodup) : aKeys (aDel l k) = (aKeys l).filter (· != k) := by
  induction l with
  | nil => rfl
  | cons x r ih =>
    obtain ⟨j, u⟩ := x
    simp only [aKeys, List.map_cons, List.nodup_cons] at h ih ⊢
    simp only [aDel]
    by_cases hj : j = k
    · subst hj
      rw [if_pos rfl, List.filter_cons]
      simp only [bne_self_eq_false, Bool.false_eq_true, if_false]
      rw [List.filter_eq_self.2]
      intro a ha
      simp only [bne_iff_ne, ne_eq]
      rintro rfl
      exact h.1 ha
    · rw [if_neg hj, List.map_cons, List.filter_cons]
      have : (j != k) = true := by simpa using hj
      rw [if_pos this, ih h.2]
theorem aGet_del (l : AL) (k q : Int) (h : (aKeys l).Nodup) : aGet (aDel l k) q = if q = k then none else aGet l q := by
  induction l with
  | nil => simp [aDel, aGet]
  | cons x r ih =>
    obtain ⟨j, u⟩ := x
    simp only [aKeys, List.map_cons, List.nodup_cons] at h
    simp only [aDel]
    by_cases hj : j = k
    · subst hj
      rw [if_pos rfl]
      simp only [aGet]
      by_cases hq : q = j
      · subst hq; rw [if_pos rfl]; exact aGet_none h.1
      · rw [if_neg hq, if_neg (fun e => hq e.symm)]
    · rw [if_neg hj]
      simp only [aGet]
      by_cases hq : j = q
      · subst hq; rw [if_pos rfl, if_pos rfl, if_neg hj]
      · rw [if_neg hq, if_neg hq, ih h.2]
theorem aDel_nodup {l : AL} (h : (aKeys l).Nodup) (k : Int) : (aKeys (aDel l k)).Nodup := by
  rw [aDel_keys l k h]; exact List.Pairwise.filter _ h

/-- Block m is a map with these entries. -/
structure MapAt (w : World) (m : Nat) (al : AL) : Prop where
  nodup : (aKeys al).Nodup
  obj : ∃ es clock, w.heap[m]? = some (.map es clock) ∧ es.toList.map (fun e => (e.key, e.val)) = al.map (fun x => (Value.int .i64 x.1, x.2)) ∧ (∀ e ∈ es.toList, e.born < clock) ∧ (es.toList.map (·.born)).Nodup

theorem MapAt.lt {w : World} {m : Nat} {al : AL} (h : MapAt w m al) : m < w.heap.size := by obtain ⟨_, es, c, hh, _⟩ := h; exact heap_lt hh
theorem MapAt.ch {w w' : World} {m : Nat} {al : AL} (h : MapAt w m al) {F : Nat → Prop} (hc : Ch F w w') (hm : ¬ F m) : MapAt w' m al := by
  obtain ⟨hn, es, c, hh, rest⟩ := h
  exact ⟨hn, es, c, hc.heap hh hm, rest⟩
theorem MapAt.ch0 {w w' : World} {m : Nat} {al : AL} (h : MapAt w m al) (hc : Ch No w w') : MapAt w' m al := h.ch hc (fun q => q)
theorem MapAt.new (w : World) : MapAt (w.alloc (.map #[] 0)) w.heap.size [] :=
  ⟨by simp [aKeys], #[], 0, heap_alloc_new w _, rfl, by simp, by simp⟩

theorem findNow_none : ∀ (es : List MapEntry) (al : AL) (k : Int) (i : Nat), es.map (fun e => (e.key, e.val)) = al.map (fun x => (Value.int .i64 x.1, x.2)) → aGet al k = none → Instr.findNow (.int .i64) (.int .i64 k) es i = some none
  | [], [], _, _, _, _ => rfl
  | [], x :: r, _, _, h, _ => by simp at h
  | e :: es, [], _, _, h, _ => by simp at h
  | e :: es, (j, v) :: r, k, i, h, hg => by
    simp only [List.map_cons, List.cons.injEq, Prod.mk.injEq] at h
    obtain ⟨⟨hk, hv⟩, ht⟩ := h
    simp only [aGet] at hg
    by_cases hj : j = k
    · rw [if_pos hj] at hg; cases hg
    · rw [if_neg hj] at hg
      simp only [Instr.findNow, hk, Instr.sameNow, if_true]
      have : (k == j) = false := by simpa using fun e => hj e.symm
      rw [this]
      exact findNow_none es r k (i + 1) ht hg
theorem findNow_some : ∀ (es : List MapEntry) (al : AL) (k : Int) (i : Nat) (u : Value), es.map (fun e => (e.key, e.val)) = al.map (fun x => (Value.int .i64 x.1, x.2)) → aGet al k = some u →
    ∃ n e, es[n]? = some e ∧ e.key = .int .i64 k ∧ e.val = u ∧ Instr.findNow (.int .i64) (.int .i64 k) es i = some (some (i + n, u)) ∧
      (∀ v, (es.set n { e with key := .int .i64 k, val := v }).map (fun e => (e.key, e.val)) = (aSet al k v).map (fun x => (Value.int .i64 x.1, x.2))) ∧ (es.eraseIdx n).map (fun e => (e.key, e.val)) = (aDel al k).map (fun x => (Value.int .i64 x.1, x.2))
  | [], [], _, _, _, _, hg => by simp [aGet] at hg
  | [], x :: r, _, _, _, h, _ => by simp at h
  | e :: es, [], _, _, _, h, _ => by simp at h
  | e :: es, (j, v) :: r, k, i, u, h, hg => by
    simp only [List.map_cons, List.cons.injEq, Prod.mk.injEq] at h
    obtain ⟨⟨hk, hv⟩, ht⟩ := h
    simp only [aGet] at hg
    by_cases hj : j = k
    · subst hj
      rw [if_pos rfl] at hg
      cases hg
      refine ⟨0, e, rfl, hk, hv, ?_, fun x => ?_, ?_⟩
      · simp only [Instr.findNow, hk, Instr.sameNow, if_true, beq_self_eq_true, hv, Nat.add_zero]
      · simp [aSet, ht]
      · simp [aDel, ht]
    · rw [if_neg hj] at hg
      obtain ⟨n, e', h1, h2, h3, h4, h5, h6⟩ := findNow_some es r k (i + 1) u ht hg
      refine ⟨n + 1, e', by simpa using h1, h2, h3, ?_, fun x => ?_, ?_⟩
      · simp only [Instr.findNow, hk, Instr.sameNow, if_true]
        have : (k == j) = false := by simpa using fun e => hj e.symm
        rw [this, show i + (n + 1) = i + 1 + n by omega]
        exact h4
      · simp only [List.set_cons_succ, List.map_cons, aSet, if_neg hj, h5, hk, hv]
      · simp only [List.eraseIdx_cons_succ, List.map_cons, aDel, if_neg hj, h6, hk, hv]

section
variable {P : Program} {w : World} {m : Nat} {al : AL} {t kt e : TypeId}

theorem run_checkKey (hk : P.underlying kt = some (.int .i64)) (b : Bool) (n : Nat) (k : Int) (w : World) : (Instr.checkKey b (n + 1) kt (.int .i64 k)).run P w = .ok () w := by
  simp [Instr.checkKey, run_underlying hk]

theorem run_findKey (hk : P.underlying kt = some (.int .i64)) {es : List MapEntry} {k : Int} {r : Option (Nat × Value)} (h : Instr.findNow (.int .i64) (.int .i64 k) es 0 = some r) (w : World) : (Instr.findKey kt (.int .i64 k) es).run P w = .ok r w := by
  simp [Instr.findKey, run_underlying hk, h]

theorem run_getMap {es : Array MapEntry} {c : Nat} (hh : w.heap[m]? = some (.map es c)) : (getObj m).run P w = .ok (.map es c) w := by
  simp [getObj, Sem.run, hh]
theorem run_setMap {o o' : Obj} (hh : w.heap[m]? = some o) (hc : ∀ a b c, o ≠ .cells a b c) : (setObj m o').run P w = .ok () { w with heap := w.heap.setIfInBounds m o' } := by
  cases o <;> simp_all [setObj, Sem.run]

/-- 'm[k]': the value, or the zero value z. -/
theorem run_lookup1 (ht : P.underlying t = some (.map kt e)) (hk : P.underlying kt = some (.int .i64)) {z : Value} (hz : (P.info? e).map (·.zero) = some (some z)) (h : MapAt w m al) (k : Int) :
    (Instr.lookup t (.map (some m)) (.int .i64 k) false).run P w = .ok ((aGet al k).getD z) w := by
  obtain ⟨hn, es, c, hh, hes, _⟩ := h
  obtain ⟨inf, hinf, hz'⟩ := Option.map_eq_some_iff.1 hz
  cases hg : aGet al k with
  | none =>
    have hf := findNow_none es.toList al k 0 hes hg
    simp [Instr.lookup, run_underlying ht, run_getMap hh, run_setMap hh, run_checkKey hk, run_findKey hk hf, zeroValue, typeInfo, hinf, hz']
  | some u =>
    obtain ⟨n, e', _, _, _, hf, _⟩ := findNow_some es.toList al k 0 u hes hg
    simp [Instr.lookup, run_underlying ht, run_getMap hh, run_setMap hh, run_checkKey hk, run_findKey hk hf]
/-- 'v, ok := m[k]'. -/
theorem run_lookup2 (ht : P.underlying t = some (.map kt e)) (hk : P.underlying kt = some (.int .i64)) {z : Value} (hz : (P.info? e).map (·.zero) = some (some z)) (h : MapAt w m al) (k : Int) :
    (Instr.lookup t (.map (some m)) (.int .i64 k) true).run P w = .ok (.tuple #[(aGet al k).getD z, .bool (aGet al k).isSome]) w := by
  obtain ⟨hn, es, c, hh, hes, _⟩ := h
  obtain ⟨inf, hinf, hz'⟩ := Option.map_eq_some_iff.1 hz
  cases hg : aGet al k with
  | none =>
    have hf := findNow_none es.toList al k 0 hes hg
    simp [Instr.lookup, run_underlying ht, run_getMap hh, run_setMap hh, run_checkKey hk, run_findKey hk hf, zeroValue, typeInfo, hinf, hz']
  | some u =>
    obtain ⟨n, e', _, _, _, hf, _⟩ := findNow_some es.toList al k 0 u hes hg
    simp [Instr.lookup, run_underlying ht, run_getMap hh, run_setMap hh, run_checkKey hk, run_findKey hk hf]
end

/-- A block of another kind than cells, set. -/
def World.putObj (w : World) (m : Nat) (o : Obj) : World := { w with heap := w.heap.setIfInBounds m o }
theorem putObj_ch (w : World) (m : Nat) (o : Obj) : Ch (One m) w (World.putObj w m o) :=
  ⟨rfl, rfl, rfl, by simp [World.putObj], fun k hk hn => by
    have : k ≠ m := fun e => hn e
    show (w.heap.setIfInBounds m o)[k]? = _
    rw [Array.getElem?_setIfInBounds_ne (fun e => this e.symm)]⟩
theorem putObj_at {w : World} {m : Nat} (h : m < w.heap.size) (o : Obj) : (World.putObj w m o).heap[m]? = some o := by
  simp [World.putObj, h]

section
variable {P : Program} {w : World} {m : Nat} {al : AL} {t kt e : TypeId}

theorem run_mapUpdate_al (ht : P.underlying t = some (.map kt e)) (hk : P.underlying kt = some (.int .i64)) (h : MapAt w m al) (k : Int) (v : Value) :
    ∃ w', (Instr.mapUpdate t (.map (some m)) (.int .i64 k) v).run P w = .ok () w' ∧ MapAt w' m (aSet al k v) ∧ Ch (One m) w w' := by
  have hlt := h.lt
  obtain ⟨hn, es, c, hh, hes, hb, hbn⟩ := h
  cases hg : aGet al k with
  | none =>
    have hf := findNow_none es.toList al k 0 hes hg
    refine ⟨World.putObj w m (.map (es.push { key := .int .i64 k, val := v, born := c }) (c + 1)), ?_, ⟨aSet_nodup hn k v, _, _, putObj_at hlt _, ?_, ?_, ?_⟩, putObj_ch _ _ _⟩
    · simp [Instr.mapUpdate, run_underlying ht, run_getMap hh, run_setMap hh, run_checkKey hk, run_findKey hk hf, World.putObj]
    · have : aSet al k v = al ++ [(k, v)] := by
        clear hes hf hn hbn hb hh
        induction al with
        | nil => rfl
        | cons x r ih =>
          obtain ⟨j, u⟩ := x
          simp only [aGet] at hg
          by_cases hj : j = k
          · rw [if_pos hj] at hg; cases hg
          · rw [if_neg hj] at hg
            simp [aSet, hj, ih hg]
      rw [this]
      simp [hes]
    · intro x hx
      simp only [Array.toList_push, List.mem_append, List.mem_singleton] at hx
      rcases hx with hx | rfl
      · have := hb x hx; omega
      · simp
    · simp only [Array.toList_push, List.map_append, List.map_cons, List.map_nil]
      rw [List.nodup_append]
      refine ⟨hbn, by simp, ?_⟩
      intro a ha b hb'
      simp at hb'
      subst hb'
      obtain ⟨x, hx, rfl⟩ := List.mem_map.1 ha
      have := hb x hx
      omega
  | some u =>
    obtain ⟨n, e', h1, h2, h3, hf, h5, _⟩ := findNow_some es.toList al k 0 u hes hg
    have hnl : n < es.size := by have := (List.getElem?_eq_some_iff.1 h1).1; simpa using this
    have he : es[n]? = some e' := by rw [← h1]; simp
    have hmod : es.modify n (fun e => { e with key := .int .i64 k, val := v }) = (es.toList.set n { e' with key := .int .i64 k, val := v }).toArray := by
      apply Array.ext_getElem?
      intro i
      rw [Array.getElem?_modify]
      simp only [List.getElem?_toArray, List.getElem?_set]
      by_cases hi : n = i
      · subst hi
        have he2 : es[n] = e' := by have := he; rw [Array.getElem?_eq_getElem hnl] at this; exact Option.some.inj this
        simp [hnl, he2]
      · simp [hi]
    refine ⟨World.putObj w m (.map (es.modify n fun e => { e with key := .int .i64 k, val := v }) c), ?_, ⟨aSet_nodup hn k v, _, _, putObj_at hlt _, ?_, ?_, ?_⟩, putObj_ch _ _ _⟩
    · simp only [Nat.zero_add] at hf
      simp [Instr.mapUpdate, run_underlying ht, run_getMap hh, run_setMap hh, run_checkKey hk, run_findKey hk hf, he, h2, Instr.keyThatStays, Instr.sameBits, World.putObj]
    · rw [hmod]; exact h5 v
    · intro x hx
      rw [hmod] at hx
      rcases List.mem_or_eq_of_mem_set (by simpa using hx) with hx | rfl
      · exact hb x hx
      · exact hb e' (List.mem_of_getElem? h1)
    · rw [hmod]
      have : ((es.toList.set n { e' with key := .int .i64 k, val := v }).map (·.born)) = es.toList.map (·.born) := by
        rw [List.map_set]
        have e1 : (es.toList.map (·.born))[n]? = some e'.born := by rw [List.getElem?_map, h1]; rfl
        apply List.ext_getElem?
        intro i
        rw [List.getElem?_set]
        by_cases hi : n = i
        · subst hi; rw [if_pos rfl, e1]; simp [hnl]
        · rw [if_neg hi]
      simpa [this] using hbn

theorem run_delete_al (ht : P.underlying t = some (.map kt e)) (hk : P.underlying kt = some (.int .i64)) (h : MapAt w m al) (k : Int) (tt ty : TypeId) :
    ∃ w', (Builtin.delete_ #[t, tt] ty #[.map (some m), .int .i64 k]).run P w = .ok (.tuple #[]) w' ∧ MapAt w' m (aDel al k) ∧ Ch (One m) w w' := by
  have hlt := h.lt
  obtain ⟨hn, es, c, hh, hes, hb, hbn⟩ := h
  cases hg : aGet al k with
  | none =>
    have hf := findNow_none es.toList al k 0 hes hg
    have hd : aDel al k = al := by
      clear hes hf hn hbn hb hh
      induction al with
      | nil => rfl
      | cons x r ih =>
        obtain ⟨j, u⟩ := x
        simp only [aGet] at hg
        by_cases hj : j = k
        · rw [if_pos hj] at hg; cases hg
        · rw [if_neg hj] at hg
          simp [aDel, hj, ih hg]
    refine ⟨World.putObj w m (.map es c), ?_, ⟨by rw [hd]; exact hn, _, _, putObj_at hlt _, by rw [hd]; exact hes, hb, hbn⟩, putObj_ch _ _ _⟩
    simp [Builtin.delete_, run_underlying ht, run_getMap hh, run_setMap hh, run_checkKey hk, run_findKey hk hf, World.putObj]
  | some u =>
    obtain ⟨n, e', h1, h2, h3, hf, _, h6⟩ := findNow_some es.toList al k 0 u hes hg
    simp only [Nat.zero_add] at hf
    refine ⟨World.putObj w m (.map (es.eraseIdxIfInBounds n) c), ?_, ⟨aDel_nodup hn k, _, _, putObj_at hlt _, ?_, ?_, ?_⟩, putObj_ch _ _ _⟩
    · simp [Builtin.delete_, run_underlying ht, run_getMap hh, run_setMap hh, run_checkKey hk, run_findKey hk hf, World.putObj]
    · rw [Array.toList_eraseIdxIfInBounds]; exact h6
    · intro x hx
      rw [Array.toList_eraseIdxIfInBounds] at hx
      exact hb x (List.mem_of_mem_eraseIdx hx)
    · rw [Array.toList_eraseIdxIfInBounds]
      exact hbn.sublist ((List.eraseIdx_sublist _ _).map _)

theorem run_len_al {ty : TypeId} (ht : P.underlying t = some (.map kt e)) (h : MapAt w m al) : (Builtin.len_ #[t] ty #[.map (some m)]).run P w = .ok (.int .i64 al.length) w := by
  obtain ⟨hn, es, c, hh, hes, _⟩ := h
  have : es.size = al.length := by have := congrArg List.length hes; simpa using this
  simp [Builtin.len_, run_underlying ht, run_getMap hh, this, goInt]
end
end Go.Proofs.YtdmhenanikkabaaDoor

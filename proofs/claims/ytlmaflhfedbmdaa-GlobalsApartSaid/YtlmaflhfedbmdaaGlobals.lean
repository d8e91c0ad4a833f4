/- Package globals: what each call does with slots in memory. -/
import Derived.Test.YtlmaflhfedbmdaaKit
set_option linter.unusedVariables false
set_option linter.unusedSimpArgs false
namespace Go.Proofs.Ytlmaflhfedbmdaa
open Go Go.RowKit

theorem infoU64 : (Try.prog.info? 23).map (fun i => (i.zero, i.size, i.bytes)) = some (some (.int .u64 0), 1, 8) := by kernel_rfl

/-- Slots at block p, their words in block b. -/
structure SlotsAt (w : World) (p b : Nat) (l : List Int) : Prop where
  ne : p ≠ b
  head : w.heap[p]? = some (.cells #[.slice (some ⟨b, 0, none⟩) l.length l.length] 89 (0, 0))
  body : w.heap[b]? = some (.cells (ints .u64 l) 23 (0, 0))
  len : l.length ≤ 64
  wf : ∀ x ∈ l, U64 x

theorem SlotsAt.ch {w w' : World} {p b : Nat} {l : List Int} (h : SlotsAt w p b l) {F : Nat → Prop} (hc : Ch F w w') (hp : ¬ F p) (hb : ¬ F b) : SlotsAt w' p b l :=
  ⟨h.ne, hc.heap h.head hp, hc.heap h.body hb, h.len, h.wf⟩
theorem SlotsAt.ch0 {w w' : World} {p b : Nat} {l : List Int} (h : SlotsAt w p b l) (hc : Ch No w w') : SlotsAt w' p b l := h.ch hc (fun q => q) (fun q => q)

theorem globals_New_no (n : Int) (w : World) (h : n < 0 ∨ 64 < n) :
    Calls Try.prog 11 #[.int .i64 n] w fun e w' => e = .returned (.tuple #[.pointer none, .int .i64 1]) ∧ w = w' := by
  by_cases h0 : n < 0
  · go_enter Try.func11, Try.ntmps11
    go_wp2
    go_ret2
    exact ⟨rfl, rfl⟩
  · have h1 : 64 < n := by omega
    go_enter Try.func11, Try.ntmps11
    go_wp2
    go_ret2
    exact ⟨rfl, rfl⟩

theorem globals_New_ok (n : Int) (w : World) (h0 : 0 ≤ n) (h : n ≤ 64) :
    Calls Try.prog 11 #[.int .i64 n] w fun e w' => ∃ p b, e = .returned (.tuple #[.pointer (some ⟨p, 0, none⟩), .int .i64 0]) ∧ SlotsAt w' p b (List.replicate n.toNat 0) ∧ Ch No w w' ∧ w.heap.size ≤ p ∧ w.heap.size ≤ b := by
  go_enter Try.func11, Try.ntmps11
  go_wp2_with (at_make; refine wpL_make rfl _ _ _ rfl 23 .u64 8 Try.underlying29 infoU64 _ _ _ _ n.toNat rfl rfl (by omega) (by omega) (by omega) (by omega) ?_)
  go_ret2
  refine ⟨w.heap.size + 1, w.heap.size, rfl, ⟨by omega, ?_, ?_, by simp; omega, ?_⟩, ((Ch.refl _ _).alloc _).alloc _, by omega, by omega⟩
  · simpa using heap_alloc2_new w _ _
  · exact heap_alloc2_old w _ _
  · intro x hx; simp at hx; obtain ⟨_, rfl⟩ := hx; simp [InK]

theorem globals_Len (w : World) (p b : Nat) (l : List Int) (h : SlotsAt w p b l) :
    Calls Try.prog 17 #[.pointer (some ⟨p, 0, none⟩)] w fun e w' => e = .returned (.int .i64 l.length) ∧ w = w' := by
  have c0 := cellOf h.head 0 rfl
  go_enter Try.func17, Try.ntmps17
  go_wp2
  go_ret
  exact ⟨rfl, rfl⟩

/-- What is in slot i; 0 if there is none. -/
def slotAt (l : List Int) (i : Int) : Int := l.getD i.toNat 0
theorem slotAt_wf {l : List Int} (h : ∀ x ∈ l, U64 x) (i : Int) : U64 (slotAt l i) := by
  unfold slotAt
  by_cases hi : i.toNat < l.length
  · rw [List.getD_eq_getElem?_getD, List.getElem?_eq_getElem hi]; exact h _ (List.getElem_mem hi)
  · rw [List.getD_eq_getElem?_getD, List.getElem?_eq_none (by omega)]; simp [InK]

theorem globals_Get_ok (w : World) (p b : Nat) (l : List Int) (i : Int) (h : SlotsAt w p b l) (h0 : 0 ≤ i) (hi : i < l.length) :
    Calls Try.prog 18 #[.pointer (some ⟨p, 0, none⟩), .int .u64 i] w fun e w' => e = .returned (.tuple #[.int .u64 (slotAt l i), .int .i64 0]) ∧ w = w' := by
  have c0 := cellOf h.head 0 rfl
  have c1 : w.cell? ⟨b, i.toNat, none⟩ = some (.int .u64 (slotAt l i)) := cellOf h.body _ (by rw [ints_get _ _ _ (by omega)]; simp [slotAt, List.getD_eq_getElem?_getD, show i.toNat < l.length by omega])
  have hl := h.len
  go_enter Try.func18, Try.ntmps18
  go_wp2
  go_ret2
  exact ⟨rfl, rfl⟩

theorem globals_Get_no (w : World) (p b : Nat) (l : List Int) (i : Int) (h : SlotsAt w p b l) (hi : (l.length : Int) ≤ i) :
    Calls Try.prog 18 #[.pointer (some ⟨p, 0, none⟩), .int .u64 i] w fun e w' => e = .returned (.tuple #[.int .u64 0, .int .i64 8]) ∧ w = w' := by
  have c0 := cellOf h.head 0 rfl
  have hl := h.len
  go_enter Try.func18, Try.ntmps18
  go_wp2
  go_ret2
  exact ⟨rfl, rfl⟩

theorem globals_Set_ok (w : World) (p b : Nat) (l : List Int) (i v : Int) (h : SlotsAt w p b l) (h0 : 0 ≤ i) (hi : i < l.length) (hv : U64 v) :
    Calls Try.prog 13 #[.pointer (some ⟨p, 0, none⟩), .int .u64 i, .int .u64 v] w fun e w' => e = .returned (.tuple #[.int .u64 (slotAt l i), .int .i64 0]) ∧ SlotsAt w' p b (l.set i.toNat v) ∧ Ch (One b) w w' := by
  have c0 := cellOf h.head 0 rfl
  have c1 : w.cell? ⟨b, i.toNat, none⟩ = some (.int .u64 (slotAt l i)) := cellOf h.body _ (by rw [ints_get _ _ _ (by omega)]; simp [slotAt, List.getD_eq_getElem?_getD, show i.toNat < l.length by omega])
  have f1 := freeOf h.body i.toNat
  have hl := h.len
  go_enter Try.func13, Try.ntmps13
  go_wp2_with (go_at_call 18; refine (globals_Get_ok _ _ _ _ _ h h0 hi).mono ?_; rintro e w' ⟨rfl, rfl⟩)
  go_ret2
  refine ⟨rfl, ⟨h.ne, ?_, ?_, by simpa using hl, ?_⟩, (Ch.refl _ _).setIn (p := ⟨b, i.toNat, none⟩) (show One b b from rfl) _⟩
  · rw [List.length_set]; exact heap_set_ne h.head h.ne _
  · rw [← ints_set]; exact heap_set h.body _
  · intro x hx
    rcases List.mem_or_eq_of_mem_set hx with hx | rfl
    · exact h.wf x hx
    · exact hv

theorem globals_Set_no (w : World) (p b : Nat) (l : List Int) (i v : Int) (h : SlotsAt w p b l) (hi : (l.length : Int) ≤ i) :
    Calls Try.prog 13 #[.pointer (some ⟨p, 0, none⟩), .int .u64 i, .int .u64 v] w fun e w' => e = .returned (.tuple #[.int .u64 0, .int .i64 8]) ∧ w = w' := by
  have c0 := cellOf h.head 0 rfl
  have hl := h.len
  go_enter Try.func13, Try.ntmps13
  go_wp2_with (go_at_call 18; refine (globals_Get_no _ _ _ _ _ h hi).mono ?_; rintro e w' ⟨rfl, rfl⟩)
  go_ret2
  exact ⟨rfl, rfl⟩
/-- The error of a slot: 8 if there is none. -/
def errAt (l : List Int) (i : Int) : Int := if i < l.length then 0 else 8
theorem errAt_ok {l : List Int} {i : Int} (h : i < l.length) : errAt l i = 0 := if_pos h
theorem errAt_no {l : List Int} {i : Int} (h : (l.length : Int) ≤ i) : errAt l i = 8 := if_neg (by omega)
theorem slotAt_no {l : List Int} {i : Int} (h : (l.length : Int) ≤ i) : slotAt l i = 0 := by
  unfold slotAt; rw [List.getD_eq_getElem?_getD, List.getElem?_eq_none (by omega)]; rfl
theorem set_no {l : List Int} {i v : Int} (h : (l.length : Int) ≤ i) : l.set i.toNat v = l := List.set_eq_of_length_le (by omega)

theorem globals_Get (w : World) (p b : Nat) (l : List Int) (i : Int) (h : SlotsAt w p b l) (h0 : 0 ≤ i) :
    Calls Try.prog 18 #[.pointer (some ⟨p, 0, none⟩), .int .u64 i] w fun e w' => e = .returned (.tuple #[.int .u64 (slotAt l i), .int .i64 (errAt l i)]) ∧ w = w' := by
  by_cases hi : i < l.length
  · rw [errAt_ok hi]; exact globals_Get_ok w p b l i h h0 hi
  · rw [errAt_no (by omega), slotAt_no (by omega)]; exact globals_Get_no w p b l i h (by omega)

theorem globals_Set (w : World) (p b : Nat) (l : List Int) (i v : Int) (h : SlotsAt w p b l) (h0 : 0 ≤ i) (hv : U64 v) :
    Calls Try.prog 13 #[.pointer (some ⟨p, 0, none⟩), .int .u64 i, .int .u64 v] w fun e w' => e = .returned (.tuple #[.int .u64 (slotAt l i), .int .i64 (errAt l i)]) ∧ SlotsAt w' p b (l.set i.toNat v) ∧ Ch (One b) w w' := by
  by_cases hi : i < l.length
  · rw [errAt_ok hi]; exact globals_Set_ok w p b l i v h h0 hi hv
  · rw [errAt_no (by omega), slotAt_no (by omega), set_no (by omega)]
    refine (globals_Set_no w p b l i v h (by omega)).mono ?_
    rintro e w' ⟨rfl, rfl⟩
    exact ⟨rfl, h, Ch.refl _ _⟩

theorem globals_row (w : World) (b n c : Nat) (l : List Int) (hb : w.heap[b]? = some (.cells (ints .u64 l) 23 (0, 0))) (hn : l.length = n) (h64 : n ≤ 64) (hwf : ∀ x ∈ l, U64 x) :
    Calls Try.prog 41 #[.slice (some ⟨b, 0, none⟩) n c] w fun e w' => ∃ v, e = .returned v ∧ OwnR (intRp .u64) w.heap.size 23 No w' v l ∧ Ch No w w' := by
  go_enter Try.func41, Try.ntmps41
  go_wp2_with (at_builtin; refine wpL_append rfl _ _ _ rfl w.heap.size 23 (.int .u64 0) 1 8 Try.underlying29 infoU64 rfl (by decide) (.slice none 0 0) 0 [] rfl (World.ownsRow_nil _ _ _ _) (some ⟨b, 0, none⟩) n c (l.map (Value.int .u64)) rfl (by simp [hn]) (by simp) (fun _ => ⟨_, rfl, fun j u hj => by rw [Addr.add_lit, Nat.zero_add, cell_of_row _ _ _ _ _ _ hb]; simpa [ints] using hj⟩) (by simp; intro x hx; rfl) (by unfold maxLen; omega) (by omega) (Nat.le_refl _) ?_; intro v' w' ho hg hk)
  go_ret
  exact ⟨_, rfl, OwnR.ofInts ho (by omega) hwf, (Ch.refl _ _).grown hg (by simp [Value.ownBlock])⟩

theorem globals_All (w : World) (p b : Nat) (l : List Int) (h : SlotsAt w p b l) :
    Calls Try.prog 15 #[.pointer (some ⟨p, 0, none⟩)] w fun e w' => ∃ v, e = .returned v ∧ OwnR (intRp .u64) w.heap.size 23 No w' v l ∧ Ch No w w' := by
  have c0 := cellOf h.head 0 rfl
  go_enter Try.func15, Try.ntmps15
  go_wp2_with (go_at_call 41; refine (globals_row _ _ _ _ l h.body rfl h.len h.wf).mono ?_; rintro e w' ⟨v, rfl, ho, hc⟩)
  go_ret
  exact ⟨_, rfl, ho, hc⟩
end Go.Proofs.Ytlmaflhfedbmdaa

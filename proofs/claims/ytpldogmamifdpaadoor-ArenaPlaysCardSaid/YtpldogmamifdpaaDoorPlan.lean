/- Package plan: what each call does. -/
import Derived.Test.YtpldogmamifdpaaDoorKit
set_option linter.unusedVariables false
set_option linter.unusedSimpArgs false
namespace Go.Proofs.YtpldogmamifdpaaDoor
open Go Go.RowKit

/-- What Need answers: how many pages; the error. -/
def needN (us size : Int) : Int := if size < 1 ∨ 16384 < size then 0 else if size ≤ 16 - us then 0 else (size + 15) / 16
def needE (size : Int) : Int := if size < 1 ∨ 16384 < size then 1 else 0

/-- The page and its used words behind a place. -/
def placeP (pg us size page : Int) : Int × Int :=
  if size < 1 ∨ 16384 < size then (pg, us)
  else if size ≤ 16 - us then (pg, us + size)
  else if page < 0 ∨ 1024 < page then (pg, us)
  else if 16 < size then (pg, us)
  else (page, size)
def placeA (pg us size page : Int) : Int :=
  if size < 1 ∨ 16384 < size then 0
  else if size ≤ 16 - us then pg * 16 + us
  else if page < 0 ∨ 1024 < page then 0
  else page * 16
def placeE (us size page : Int) : Int :=
  if size < 1 ∨ 16384 < size then 1
  else if size ≤ 16 - us then 0
  else if page < 0 ∨ 1024 < page then 8
  else 0

/-- A state that is met: nowhere, or a page and how many of its words are used. -/
def PlanOk (pg us : Int) : Prop := (pg = -1 ∧ us = 16) ∨ (0 ≤ pg ∧ pg ≤ 1024 ∧ 0 ≤ us ∧ us ≤ 16)
theorem PlanOk.bd {pg us : Int} (h : PlanOk pg us) : -1 ≤ pg ∧ pg ≤ 1024 ∧ 0 ≤ us ∧ us ≤ 16 := by rcases h with h | h <;> omega
theorem placeP_ok {pg us : Int} (h : PlanOk pg us) (size page : Int) : PlanOk (placeP pg us size page).1 (placeP pg us size page).2 := by
  have hb := h.bd
  unfold placeP
  by_cases h1 : size < 1 ∨ 16384 < size
  · rw [if_pos h1]; exact h
  · rw [if_neg h1]
    by_cases h2 : size ≤ 16 - us
    · rw [if_pos h2]
      rcases h with h | h
      · omega
      · exact .inr (by simp only; omega)
    · rw [if_neg h2]
      by_cases h3 : page < 0 ∨ 1024 < page
      · rw [if_pos h3]; exact h
      · rw [if_neg h3]
        by_cases h4 : 16 < size
        · rw [if_pos h4]; exact h
        · rw [if_neg h4]; exact .inr (by simp only; omega)

/-- The variable 'nowhere' holds what its initialiser lays. -/
structure Nw (w : World) : Prop where
  c0 : w.cell? ⟨0, 0, none⟩ = some (.int .i64 (-1))
  c1 : w.cell? ⟨0, 1, none⟩ = some (.int .i64 16)
theorem Nw.ch {w w' : World} {F : Nat → Prop} (h : Nw w) (hc : Ch F w w') (hF : ¬ F 0) : Nw w' := ⟨hc.cell h.c0 hF, hc.cell h.c1 hF⟩
theorem Nw.lt {w : World} (h : Nw w) : 0 < w.heap.size := World.block_lt_of_cell? w _ h.c0

/-- A plan in memory. -/
structure PlanAt (w : World) (p : Nat) (pg us : Int) : Prop where
  head : w.heap[p]? = some (.cells #[.int .i64 pg, .int .i64 us] 103 (0, 0))
  ok : PlanOk pg us
theorem PlanAt.ch {w w' : World} {p : Nat} {pg us : Int} {F : Nat → Prop} (h : PlanAt w p pg us) (hc : Ch F w w') (hF : ¬ F p) : PlanAt w' p pg us := ⟨hc.heap h.head hF, h.ok⟩
theorem PlanAt.lt {w : World} {p : Nat} {pg us : Int} (h : PlanAt w p pg us) : p < w.heap.size := heap_lt h.head

theorem plan_New (w : World) (h : Nw w) :
    Calls Tryd.prog 30 #[] w fun e w' => ∃ p, e = .returned (.pointer (some ⟨p, 0, none⟩)) ∧ PlanAt w' p (-1) 16 ∧ w.heap.size = p ∧ Ch No w w' := by
  have c0 := h.c0
  have c1 := h.c1
  go_enter Tryd.func30, Tryd.ntmps30
  go_wp2_with fail
  go_ret
  exact ⟨_, rfl, ⟨heap_alloc_new _ _, .inl ⟨rfl, rfl⟩⟩, rfl, (Ch.refl _ _).alloc _⟩

theorem plan_Left (w : World) (p : Nat) (pg us : Int) (h : PlanAt w p pg us) :
    Calls Tryd.prog 48 #[.pointer (some ⟨p, 0, none⟩)] w fun e w' => e = .returned (.int .i64 (16 - us)) ∧ w = w' := by
  have c1 := cellOf h.head 1 rfl
  have hb := h.ok.bd
  go_enter Tryd.func48, Tryd.ntmps48
  go_wp2_with fail
  go_ret
  exact ⟨rfl, rfl⟩

/-- A callee that leaves the world: met in a quiet walk. -/
theorem quiet_eq {P : Program} {f : FuncId} {args : Array Value} {w : World} {n : Nat} {v : Value}
    (h : Calls P f args (w.drewN n) fun e w' => e = .returned v ∧ w.drewN n = w') : Calls P f args (w.drewN n) fun e w'' => e = .returned v ∧ ∃ m, w'' = w.drewN m :=
  h.mono fun _ _ ⟨he, hm⟩ => ⟨he, n, hm.symm⟩

set_option maxHeartbeats 2000000 in
theorem plan_Need (w : World) (p : Nat) (pg us size : Int) (h : PlanAt w p pg us) (hn : Nw w) (hs : I64 size) :
    Calls Tryd.prog 31 #[.pointer (some ⟨p, 0, none⟩), .int .i64 size] w fun e w' => e = .returned (.tuple #[.int .i64 (needN us size), .int .i64 (needE size)]) ∧ Ch No w w' := by
  have c0 := cellOf h.head 0 rfl
  have c1 := cellOf h.head 1 rfl
  have g0 := hn.c0
  have g1 := hn.c1
  have hb := h.ok.bd
  have hs' := hs.bd
  have hl : ∀ n, Calls Tryd.prog 48 #[.pointer (some ⟨p, 0, none⟩)] (w.drewN n) fun e w' => e = .returned (.int .i64 (16 - us)) ∧ w.drewN n = w' :=
    fun n => plan_Left _ p pg us (h.ch ((Ch.refl No _).drewN n) (fun q => q))
  unfold needN needE
  by_cases h1 : size < 1 ∨ 16384 < size
  · rw [if_pos h1, if_pos h1]
    by_cases h0 : size < 1
    · have b1 : decide (size < 1) = true := decide_eq_true h0
      go_enter Tryd.func31, Tryd.ntmps31
      go_wp2_with fail
      go_ret2
      exact ⟨rfl, Ch.refl _ _⟩
    · have b1 : decide (size < 1) = false := decide_eq_false h0
      have b2 : decide (size > 16384) = true := decide_eq_true (by omega)
      go_enter Tryd.func31, Tryd.ntmps31
      go_wp2_with fail
      go_ret2
      exact ⟨rfl, Ch.refl _ _⟩
  · rw [if_neg h1, if_neg h1]
    have b1 : decide (size < 1) = false := decide_eq_false (by omega)
    have b2 : decide (size > 16384) = false := decide_eq_false (by omega)
    by_cases h2 : 16 < size
    · have b3 : decide (size > 16) = true := decide_eq_true h2
      rw [if_neg (by omega)]
      have ht : (size + 15).tdiv 16 = (size + 15) / 16 := Int.tdiv_eq_ediv_of_nonneg (by omega)
      have W1 : IntKind.i64.wrap ((size + 15) / 16) = (size + 15) / 16 := IntWalk.i64_in _ (by omega)
      have W2 : IntKind.i64.wrap (size + 16) = size + 16 := IntWalk.i64_in _ (by omega)
      have W3 : IntKind.i64.wrap (size + 16 - 1) = size + 15 := by rw [IntWalk.i64_in _ (by omega)]; omega
      have h1' := Lib.hid h1
      clear h1
      go_enter Tryd.func31, Tryd.ntmps31
      go_wp2_with fail
      go_ret2
      exact ⟨by first | rfl | simp [W2, W3, ht, W1], Ch.refl _ _⟩
    · have b3 : decide (size > 16) = false := decide_eq_false h2
      by_cases h3 : size ≤ 16 - us
      · rw [if_pos h3]
        have b4 : decide (size ≤ 16 - us) = true := decide_eq_true h3
        have e1 : (us == 16) = false := by simp; omega
        have h1' := Lib.hid h1
        clear h1
        go_enter Tryd.func31, Tryd.ntmps31
        go_wp2_with fail
        go_quiet (first | (go_at_call 48; with_reducible exact quiet_eq (hl _)))
        go_wp2_with fail
        go_ret2
        exact ⟨rfl, (Ch.refl _ _).drewN _⟩
      · rw [if_neg h3]
        have b4 : decide (size ≤ 16 - us) = false := decide_eq_false h3
        have hq : (size + 15) / 16 = 1 := by omega
        rw [hq]
        have h1' := Lib.hid h1
        clear h1 hq
        by_cases hp : pg = -1 ∧ us = 16
        · obtain ⟨rfl, rfl⟩ := hp
          go_enter Tryd.func31, Tryd.ntmps31
          go_wp2_with fail
          go_quiet (first | (go_at_call 48; with_reducible exact quiet_eq (hl _)))
          go_wp2_with fail
          go_ret2
          exact ⟨rfl, (Ch.refl _ _).drewN _⟩
        · by_cases hp1 : pg = -1
          · have e0 : (pg == -1) = true := by simpa using hp1
            have e1 : (us == 16) = false := by simp; omega
            clear hp hp1
            go_enter Tryd.func31, Tryd.ntmps31
            go_wp2_with fail
            go_quiet (first | (go_at_call 48; with_reducible exact quiet_eq (hl _)))
            go_wp2_with fail
            go_ret2
            exact ⟨rfl, (Ch.refl _ _).drewN _⟩
          · have e0 : (pg == -1) = false := by simpa using hp1
            clear hp hp1
            go_enter Tryd.func31, Tryd.ntmps31
            go_wp2_with fail
            go_quiet (first | (go_at_call 48; with_reducible exact quiet_eq (hl _)))
            go_wp2_with fail
            go_ret2
            exact ⟨rfl, (Ch.refl _ _).drewN _⟩
end Go.Proofs.YtpldogmamifdpaaDoor

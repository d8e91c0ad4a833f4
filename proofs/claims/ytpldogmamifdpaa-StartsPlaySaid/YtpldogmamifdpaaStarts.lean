/- Layer 9 (starts): what stands between two rounds of its iterator, and the iterator. -/
import Derived.Test.YtpldogmamifdpaaLaw02
import Derived.Test.YtpldogmamifdpaaSeq
set_option linter.unusedVariables false
set_option linter.unusedSimpArgs false
namespace Go.Proofs.Ytpldogmamifdpaa
open Go Go.RowKit Go.Shelf

attribute [local go_sem] Oper.semAt_some

/-! ### Marked places, rising -/
/-- Those from p on, at or behind a, and no more than b behind it. -/
def inFrom (x : List Bool) (a b p : Int) : List Nat := (List.range x.length).filter fun i => x.getD i false && decide (p ≤ i ∧ (i : Int) - a < b)
def inL (x : List Bool) (a b : Int) : List Nat := if a < 0 ∨ b < 0 then [] else inFrom x a b a

theorem filter_first (N : Nat) (q q' : Nat → Bool) (j : Nat) (hj : j < N) (hq : q j = true) (h0 : ∀ i, i < j → q i = false) (h1 : ∀ i, q' i = (q i && decide (j < i))) : (List.range N).filter q = j :: (List.range N).filter q' := by
  obtain ⟨m, rfl⟩ : ∃ m, N = j + (1 + m) := ⟨N - j - 1, by omega⟩
  rw [List.range_add, List.filter_append, List.filter_append]
  have e1 : (List.range j).filter q = [] := List.filter_eq_nil_iff.2 fun i hi => by rw [h0 i (List.mem_range.1 hi)]; simp
  have e2 : (List.range j).filter q' = [] := List.filter_eq_nil_iff.2 fun i hi => by rw [h1, h0 i (List.mem_range.1 hi)]; simp
  rw [e1, e2, List.range_add]
  simp only [List.map_append, List.filter_append, List.nil_append]
  have e3 : (List.map (j + ·) (List.range 1)).filter q = [j] := by simp [List.range_succ, hq]
  have e4 : (List.map (j + ·) (List.range 1)).filter q' = [] := by simp [List.range_succ, h1]
  rw [e3, e4]
  simp only [List.singleton_append, List.nil_append, List.cons.injEq, true_and]
  refine List.filter_congr fun i hi => ?_
  simp only [List.mem_map, List.mem_range] at hi
  obtain ⟨i1, ⟨k, _, rfl⟩, rfl⟩ := hi
  rw [h1, decide_eq_true (by omega), Bool.and_true]

theorem inFrom_none {x Y : List Bool} {a b p : Int} (hlen : Y.length = x.length) (hY : ∀ i : Nat, p ≤ i → Y.getD i false = x.getD i false) (h : IsNext Y p none) : inFrom x a b p = [] := by
  refine List.filter_eq_nil_iff.2 fun i hi => ?_
  by_cases hp : p ≤ i
  · rw [← hY i hp, h i hp]; simp
  · simp [hp]
theorem inFrom_far {x Y : List Bool} {a b p : Int} {j : Nat} (hlen : Y.length = x.length) (hY : ∀ i : Nat, p ≤ i → Y.getD i false = x.getD i false) (h : IsNext Y p (some j)) (hb : b ≤ j - a) : inFrom x a b p = [] := by
  refine List.filter_eq_nil_iff.2 fun i hi => ?_
  by_cases hp : p ≤ i
  · by_cases hij : i < j
    · rw [← hY i hp, h.2.2.2 i hp hij]; simp
    · have : ¬ ((i : Int) - a < b) := by omega
      simp [this]
  · simp [hp]
theorem inFrom_next {x Y : List Bool} {a b p : Int} {j : Nat} (hlen : Y.length = x.length) (hY : ∀ i : Nat, p ≤ i → Y.getD i false = x.getD i false) (h : IsNext Y p (some j)) (hb : (j : Int) - a < b) : inFrom x a b p = j :: inFrom x a b (j + 1) := by
  refine filter_first _ _ _ j (by rw [← hlen]; exact h.2.1) ?_ ?_ ?_
  · rw [← hY j h.1, h.2.2.1, decide_eq_true ⟨h.1, hb⟩]; rfl
  · intro i hij
    by_cases hp : p ≤ i
    · rw [← hY i hp, h.2.2.2 i hp hij]; rfl
    · simp [hp]
  · intro i
    have := h.1
    by_cases hij : j < i
    · have e : (p ≤ (i : Int) ∧ (i : Int) - a < b) ↔ ((j : Int) + 1 ≤ i ∧ (i : Int) - a < b) := by omega
      simp only [e, hij, decide_true, Bool.and_true]
    · have e : ¬ ((j : Int) + 1 ≤ i ∧ (i : Int) - a < b) := by omega
      simp [hij, e]
theorem mem_inFrom {x : List Bool} {a b p : Int} {i : Nat} : i ∈ inFrom x a b p ↔ i < x.length ∧ x.getD i false = true ∧ p ≤ i ∧ (i : Int) - a < b := by
  simp [inFrom]

/-- s is the address of a Starts over the row p, g. -/
structure StartsAt (w : World) (s p g : Nat) (x : List Bool) : Prop where
  sp : s ≠ p
  sg : s ≠ g
  head : w.heap[s]? = some (.cells #[.pointer (some ⟨p, 0, none⟩)] 99 (0, 0))
  row : RowAt w p g x

/-- What the iterator reads between two rounds. -/
structure Among (s p g Br Bs : Nat) (x : List Bool) (a b : Int) (pre : List Nat) (W : World) : Prop where
  r0 : W.cell? ⟨Br, 0, none⟩ = some (.int .i64 a)
  r1 : W.cell? ⟨Br, 1, none⟩ = some (.int .i64 b)
  s0 : W.cell? ⟨Bs, 0, none⟩ = some (.pointer (some ⟨s, 0, none⟩))
  p0 : W.cell? ⟨s, 0, none⟩ = some (.pointer (some ⟨p, 0, none⟩))
  row : ∃ Y, RowAt W p g Y ∧ Y.length = x.length ∧ ∀ i : Nat, (∀ y ∈ pre, y < i) → Y.getD i false = x.getD i false

set_option maxRecDepth 100000 in
set_option maxHeartbeats 2000000 in
theorem among_seq (n : Nat) (s p g Br Bs : Nat) (x : List Bool) (a b : Int) (ia : I64 a) (ib : I64 b) :
    Seq Fence.wide n Try.prog 63 #[.pointer (some ⟨Br, 0, none⟩), .pointer (some ⟨Bs, 0, none⟩)] (fun i : Nat => #[Value.int .i64 i]) (Among s p g Br Bs x a b) (inL x a b) := by
  intro l J W hAJ h0 hY
  have ia' := ia.bd
  have ib' := ib.bd
  obtain ⟨r0, r1, s0, p0, Y0, hY0, hlen0, hag0⟩ := hAJ _ _ h0
  refine callsIn_of_wp Try.func63 rfl trivial ?_ rfl
  simp only [Try.ntmps63, List.size_toArray, List.length_cons, List.length_nil, Nat.reduceAdd, Nat.reduceSub, Array.replicate_succ, Array.replicate_zero, List.push_toArray, List.append_toArray, List.nil_append, List.cons_append]
  by_cases hneg : a < 0 ∨ b < 0
  · have hxs : inL x a b = [] := if_pos hneg
    rw [hxs]
    by_cases ha : a < 0
    · have b1 : decide (a < 0) = true := decide_eq_true ha
      refine wpIn_scopeW ?_
      gi_wp2
      refine bodyPost_ret (results_none rfl _ _ _) rfl ?_
      exact ⟨⟨_, rfl⟩, h0⟩
    · have b1 : decide (a < 0) = false := decide_eq_false ha
      have b2 : decide (b < 0) = true := decide_eq_true (by omega)
      refine wpIn_scopeW ?_
      gi_wp2
      refine bodyPost_ret (results_none rfl _ _ _) rfl ?_
      exact ⟨⟨_, rfl⟩, h0⟩
  · have hxs : inL x a b = inFrom x a b a := if_neg hneg
    rw [hxs] at hY ⊢
    have b1 : decide (a < 0) = false := decide_eq_false (by omega)
    have b2 : decide (b < 0) = false := decide_eq_false (by omega)
    refine wpIn_scopeW ?_
    gi_wp2
    refine wpIn_labelW ?_
    gi_wp2
    gi_loopw [4] (fun v wr => ∃ (pre : List Nat) (q : Int), v = .int .i64 q ∧ I64 q ∧ a ≤ q ∧ inFrom x a b a = pre ++ inFrom x a b q ∧ (∀ y ∈ pre, (y : Int) < q) ∧ J pre wr) (fun v _ => x.length + 1 - (intOf v).toNat)
    case atStart => exact ⟨[], a, rfl, ia, Int.le_refl _, rfl, by simp, h0⟩
    case round =>
      obtain ⟨pre, q, rfl, iq, haq, hspl, hlt, hj⟩ := hrel
      obtain ⟨r0, r1, s0, p0, Y, hY1, hlen, hag⟩ := hAJ _ _ hj
      have hag' : ∀ i : Nat, q ≤ i → Y.getD i false = x.getD i false := fun i hi => hag i (fun y hy => by have := hlt y hy; omega)
      have hYle := hY1.le
      have HS := Lib.hid hspl
      have HG := Lib.hid hag'
      clear hspl hag hag'
      gi_wp2
      refine ⟨trivial, (fun h => by cases h), ?_⟩
      refine (callsIn_wide.2 (bits_Next wr p g Y q hY1 iq)).mono ?_
      rintro e w' ⟨r, rfl, hr, rfl⟩
      cases r with
      | none =>
        dsimp only [optV]
        gi_wp2
        refine ⟨fun _ h => (by cases h), ?_⟩
        gi_wp2
        rw [Exit.noGoto_normal]
        go_end0
        exact ⟨⟨_, rfl⟩, by rw [HS.out, inFrom_none hlen HG.out hr, List.append_nil]; exact hj⟩
      | some j =>
        dsimp only [optV]
        have hj1 := hr.1
        have hj2 := hr.2.1
        have W35 : IntKind.i64.wrap ((j : Int) - a) = (j : Int) - a := IntWalk.i64_in _ (by omega)
        by_cases hfar : b ≤ (j : Int) - a
        · have b3 : decide ((j : Int) - a ≥ b) = true := decide_eq_true hfar
          gi_wp2
          refine ⟨fun _ h => (by cases h), ?_⟩
          gi_wp2
          rw [Exit.noGoto_normal]
          go_end0
          exact ⟨⟨_, rfl⟩, by rw [HS.out, inFrom_far hlen HG.out hr hfar, List.append_nil]; exact hj⟩
        · have b3 : decide ((j : Int) - a ≥ b) = false := decide_eq_false hfar
          have hnx := inFrom_next hlen HG.out hr (by omega : (j : Int) - a < b)
          obtain ⟨fn, tmps, assign, body, hy, hR⟩ := hY pre j (inFrom x a b (j + 1)) wr (by rw [HS.out, hnx]) hj
          have HN := Lib.hid hnx
          have HF := Lib.hid hfar
          clear hnx hfar
          gi_wp2
          refine ⟨(fun h => by cases h), hR.mono ?_⟩
          rintro e W3 ⟨rfl, hJ3⟩
          gi_wp2
          go_roundw
          case rel => exact ⟨pre ++ [j], (j : Int) + 1, rfl, (show _ ∧ _ from by omega), by omega, by rw [HS.out, HN.out]; simp, fun y hy => by
            rcases List.mem_append.1 hy with h | h
            · have := hlt y h; omega
            · simp at h; omega, hJ3⟩
          case measure => simp [intOf]; omega
end Go.Proofs.Ytpldogmamifdpaa

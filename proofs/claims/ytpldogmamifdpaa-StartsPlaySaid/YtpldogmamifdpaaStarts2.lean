/- Layer 9 (starts): its functions. -/
import Derived.Test.YtpldogmamifdpaaStarts
import Derived.Maps.AppendAt
set_option linter.unusedVariables false
set_option linter.unusedSimpArgs false
namespace Go.Proofs.Ytpldogmamifdpaa
open Go Go.RowKit Go.Shelf

theorem StartsAt.ch {w w' : World} {s p g : Nat} {x : List Bool} {F : Nat → Prop} (h : StartsAt w s p g x) (hc : Ch F w w') (hs : ¬ F s) (hp : ¬ F p) (hg : ¬ F g) : StartsAt w' s p g x := ⟨h.sp, h.sg, hc.heap h.head hs, h.row.ch hc hp hg⟩
theorem StartsAt.ch0 {w w' : World} {s p g : Nat} {x : List Bool} (h : StartsAt w s p g x) (hc : Ch No w w') : StartsAt w' s p g x := h.ch hc (fun q => q) (fun q => q) (fun q => q)
theorem StartsAt.chG {w w' : World} {s p g : Nat} {x x' : List Bool} (h : StartsAt w s p g x) (hc : Ch (One g) w w') (hr : RowAt w' p g x') : StartsAt w' s p g x' := ⟨h.sp, h.sg, hc.heap h.head h.sg, hr⟩
theorem StartsAt.cell {w : World} {s p g : Nat} {x : List Bool} (h : StartsAt w s p g x) : w.cell? ⟨s, 0, none⟩ = some (.pointer (some ⟨p, 0, none⟩)) := cellOf h.head 0 rfl
theorem StartsAt.lt {w : World} {s p g : Nat} {x : List Bool} (h : StartsAt w s p g x) : s < w.heap.size := heap_lt h.head

/-- How many words a book of them has. -/
def capW (n : Int) : Nat := (min (max n 0) 16384).toNat

theorem starts_New (w : World) (n : Int) (hn : I64 n) :
    Calls Try.prog 19 #[.int .i64 n] w fun e w' => ∃ s p g, e = .returned (.pointer (some ⟨s, 0, none⟩)) ∧ StartsAt w' s p g (List.replicate (capW n) false) ∧ w.heap.size ≤ s ∧ w.heap.size ≤ p ∧ w.heap.size ≤ g ∧ Ch No w w' := by
  have hc : min (max n 0) 16384 = (capW n : Int) := by unfold capW; omega
  have hcl : capW n ≤ 16384 := by unfold capW; omega
  have hm : (capW n : Int) = min (max n 0) 16384 := hc.symm
  obtain ⟨N, hN⟩ : ∃ z, z = capW n := ⟨_, rfl⟩
  rw [← hN] at hc hcl ⊢
  have HN := Lib.hid hN
  clear hN hm
  have hnew := bits_New w N hcl
  go_enter Try.func19, Try.ntmps19
  go_wp2_with fail
  with_reducible refine hnew.mono ?_
  rintro e w1 ⟨p, g, rfl, h1, hp, hg, hc1⟩
  dsimp only
  go_wp2_with fail
  go_ret
  exact ⟨_, p, g, rfl, ⟨by have := h1.lt.1; omega, by have := h1.lt.2; omega, World.alloc_heap_new w1 _, h1.ch0 ((Ch.refl No w1).alloc _)⟩, hc1.size, hp, hg, hc1.alloc _⟩

theorem starts_Count (w : World) (s p g : Nat) (x : List Bool) (h : StartsAt w s p g x) :
    Calls Try.prog 36 #[.pointer (some ⟨s, 0, none⟩)] w fun e w' => e = .returned (.int .i64 (cntTo x x.length)) ∧ w = w' := by
  have c0 := h.cell
  go_enter Try.func36, Try.ntmps36
  go_wp2_with fail
  with_reducible refine (bits_Count w p g x h.row).mono ?_
  rintro e w1 ⟨rfl, rfl⟩
  dsimp only
  go_wp2_with fail
  go_ret
  exact ⟨rfl, rfl⟩

/-- Is, at a place of the kind uint64. -/
theorem starts_Is (w : World) (s p g : Nat) (x : List Bool) (i : Int) (h : StartsAt w s p g x) (hi : U64 i) :
    Calls Try.prog 22 #[.pointer (some ⟨s, 0, none⟩), .int .u64 i] w fun e w' => e = .returned (.bool (getB x i)) ∧ w = w' := by
  have c0 := h.cell
  have hle := h.row.le
  have hi' := hi.bd
  have C1 : IntKind.u64.wrap (x.length : Int) = (x.length : Int) := by rw [IntKind.wrap_u64]; omega
  have hlen := bits_Len w p g x h.row
  by_cases hlt : i < (x.length : Int)
  · have b1 : decide (i < (x.length : Int)) = true := decide_eq_true hlt
    have C2 : IntKind.i64.wrap i = i := IntWalk.i64_in _ (by omega)
    go_enter Try.func22, Try.ntmps22
    go_wp2_with fail
    with_reducible refine hlen.mono ?_
    rintro e w1 ⟨rfl, rfl⟩
    dsimp only
    go_wp2_with fail
    refine (bits_Has w p g x i h.row (show _ ∧ _ from by omega)).mono ?_
    rintro e w1 ⟨rfl, rfl⟩
    dsimp only
    go_wp2_with fail
    go_ret
    exact ⟨rfl, rfl⟩
  · have b1 : decide (i < (x.length : Int)) = false := decide_eq_false hlt
    have e0 : getB x i = false := by unfold getB; rw [decide_eq_false (by omega)]; rfl
    rw [e0]
    have HL := Lib.hid hlt
    clear hlt e0
    go_enter Try.func22, Try.ntmps22
    go_wp2_with fail
    with_reducible refine hlen.mono ?_
    rintro e w1 ⟨rfl, rfl⟩
    dsimp only
    go_wp2_with fail
    go_ret
    exact ⟨rfl, rfl⟩

/-- What Put answers, and leaves. -/
def putE9 (x : List Bool) (i : Int) : Int := if i < 1 ∨ (x.length : Int) ≤ i then 8 else if getB x i then 6 else 0
def putL9 (x : List Bool) (i : Int) : List Bool := if i < 1 ∨ (x.length : Int) ≤ i then x else x.set i.toNat true
theorem putL9_length (x : List Bool) (i : Int) : (putL9 x i).length = x.length := by unfold putL9; split <;> simp

theorem set_self (x : List Bool) (i : Nat) (h : x.getD i false = true) : x.set i true = x := by
  apply List.ext_getElem
  · simp
  · intro j h1 h2
    rw [List.getElem_set]
    split
    · rename_i e
      subst e
      simp [List.getD_eq_getElem?_getD, h2] at h
      exact h.symm
    · rfl

theorem starts_Put (w : World) (s p g : Nat) (x : List Bool) (i : Int) (h : StartsAt w s p g x) (hi : I64 i) :
    Calls Try.prog 23 #[.pointer (some ⟨s, 0, none⟩), .int .i64 i] w fun e w' => e = .returned (.int .i64 (putE9 x i)) ∧ StartsAt w' s p g (putL9 x i) ∧ Ch (One g) w w' := by
  have c0 := h.cell
  have hle := h.row.le
  have hi' := hi.bd
  have hlen := bits_Len w p g x h.row
  unfold putE9 putL9
  by_cases h1 : i < 1
  · have b1 : decide (i < 1) = true := decide_eq_true h1
    rw [if_pos (Or.inl h1), if_pos (Or.inl h1)]
    go_enter Try.func23, Try.ntmps23
    go_wp2_with fail
    go_ret
    exact ⟨rfl, h, Ch.refl _ _⟩
  · have b1 : decide (i < 1) = false := decide_eq_false h1
    by_cases h2 : (x.length : Int) ≤ i
    · have b2 : decide (i ≥ (x.length : Int)) = true := decide_eq_true h2
      rw [if_pos (Or.inr h2), if_pos (Or.inr h2)]
      have HL := Lib.hid h2
      clear h2
      go_enter Try.func23, Try.ntmps23
      go_wp2_with fail
      with_reducible refine hlen.mono ?_
      rintro e w1 ⟨rfl, rfl⟩
      dsimp only
      go_wp2_with fail
      go_ret
      exact ⟨rfl, h, Ch.refl _ _⟩
    · have b2 : decide (i ≥ (x.length : Int)) = false := decide_eq_false h2
      have hno : ¬ (i < 1 ∨ (x.length : Int) ≤ i) := by omega
      rw [if_neg hno, if_neg hno]
      have hhas := bits_Has w p g x i h.row hi
      obtain ⟨k, rfl⟩ : ∃ k : Nat, i = k := ⟨i.toNat, by omega⟩
      rw [getB_nat] at hhas ⊢
      have e1 : markB x k true 1 = x.set k true := rfl
      have hmk : Calls Try.prog 13 #[.pointer (some ⟨p, 0, none⟩), .agg #[.int .i64 k, .int .i64 1], .bool true] w fun e w' => e = .returned (.int .i64 0) ∧ RowAt w' p g (x.set k true) ∧ Ch (One g) w w' := bits_Mark w p g x k 1 true h.row (by omega)
      have b3 : decide (x.length ≤ k) = false := decide_eq_false (by omega)
      have b4 : ¬ x.length ≤ k := by omega
      have HL := Lib.hid h2
      have HO := Lib.hid hno
      clear h2 hno e1
      cases hb : x.getD k false with
      | true =>
        rw [hb] at hhas
        rw [if_pos rfl]
        have HB := Lib.hid hb
        clear hb hmk
        go_enter Try.func23, Try.ntmps23
        go_wp2_with fail
        with_reducible refine hlen.mono ?_
        rintro e w1 ⟨rfl, rfl⟩
        dsimp only
        go_wp2_with fail
        with_reducible refine hhas.mono ?_
        rintro e w1 ⟨rfl, rfl⟩
        dsimp only
        go_wp2_with fail
        go_ret
        exact ⟨rfl, by rw [Int.toNat_natCast, set_self x k HB.out]; exact h, Ch.refl _ _⟩
      | false =>
        rw [hb] at hhas
        rw [if_neg (by simp)]
        have HB := Lib.hid hb
        clear hb
        go_enter Try.func23, Try.ntmps23
        go_wp2_with fail
        with_reducible refine hlen.mono ?_
        rintro e w1 ⟨rfl, rfl⟩
        dsimp only
        go_wp2_with fail
        with_reducible refine hhas.mono ?_
        rintro e w1 ⟨rfl, rfl⟩
        dsimp only
        go_wp2_with fail
        with_reducible refine hmk.mono ?_
        rintro e w1 ⟨rfl, hr1, hc1⟩
        dsimp only
        go_wp2_with fail
        go_ret
        exact ⟨rfl, h.chG hc1 hr1, hc1⟩

/-- The last marked one from 1 on, not behind a place. -/
def IsLast (x : List Bool) (f : Int) : Option Nat → Prop
  | some j => 1 ≤ j ∧ (j : Int) ≤ f ∧ x.getD j false = true ∧ ∀ i : Nat, j < i → (i : Int) ≤ f → x.getD i false = false
  | none => ∀ i : Nat, 1 ≤ i → (i : Int) ≤ f → x.getD i false = false

set_option maxRecDepth 100000 in
theorem starts_Before (w : World) (s p g : Nat) (x : List Bool) (f : Int) (h : StartsAt w s p g x) (hf : I64 f) :
    Calls Try.prog 24 #[.pointer (some ⟨s, 0, none⟩), .int .i64 f] w fun e w' => ∃ r, e = .returned (optV r) ∧ IsLast x f r ∧ w = w' := by
  have c0 := h.cell
  have hle := h.row.le
  have hf' := hf.bd
  have hlen := bits_Len w p g x h.row
  have W1 : IntKind.i64.wrap ((x.length : Int) - 1) = (x.length : Int) - 1 := IntWalk.i64_in _ (by omega)
  obtain ⟨M, hM⟩ : ∃ M, M = min f ((x.length : Int) - 1) := ⟨_, rfl⟩
  have hM' : min f ((x.length : Int) - 1) = M := hM.symm
  have hMr : M ≤ f ∧ M < x.length ∧ (M < f → M = x.length - 1) ∧ -9223372036854775808 ≤ M := by omega
  have HMr := Lib.hid hMr
  clear hM hMr
  go_enter Try.func24, Try.ntmps24
  go_wp2_with fail
  with_reducible refine hlen.mono ?_
  rintro e w1 ⟨rfl, rfl⟩
  dsimp only
  go_wp2_with fail
  have hMr := HMr.out
  clear hM' W1
  go_loopw [6] (fun v wr => wr = w ∧ ∃ q : Int, v = .int .i64 q ∧ q ≤ M ∧ -9223372036854775808 ≤ q ∧ ∀ i : Nat, q < i → (i : Int) ≤ f → x.getD i false = false) (fun v _ => (intOf v).toNat)
  case atStart =>
    refine ⟨rfl, M, rfl, Int.le_refl _, hMr.2.2.2, fun i h1 h2 => ?_⟩
    exact getD_out x i (by omega)
  case round =>
    obtain ⟨rfl, q, rfl, hqM, hq0, hq⟩ := hrel
    by_cases hpos : 0 < q
    · have b1 : decide (q > 0) = true := decide_eq_true hpos
      obtain ⟨k, rfl⟩ : ∃ k : Nat, q = k := ⟨q.toNat, by omega⟩
      have hhas := bits_Has wr p g x k h.row (show _ ∧ _ from by omega)
      rw [getB_nat] at hhas
      have W3 : IntKind.i64.wrap ((k : Int) - 1) = (k : Int) - 1 := IntWalk.i64_in _ (by omega)
      cases hb : x.getD k false with
      | true =>
        rw [hb] at hhas
        have HB := Lib.hid hb
        clear hb
        go_wp2_with fail
        with_reducible refine hhas.mono ?_
        rintro e w1 ⟨rfl, rfl⟩
        dsimp only
        go_wp2_with fail
        go_ret2
        exact ⟨some k, rfl, ⟨by omega, by omega, HB.out, fun i h1 h2 => hq i (by omega) h2⟩, rfl⟩
      | false =>
        rw [hb] at hhas
        have HB := Lib.hid hb
        clear hb
        go_wp2_with fail
        with_reducible refine hhas.mono ?_
        rintro e w1 ⟨rfl, rfl⟩
        dsimp only
        go_wp2_with fail
        go_roundw
        case rel =>
          refine ⟨trivial, (k : Int) - 1, by go_num, by omega, by omega, fun i h1 h2 => ?_⟩
          by_cases hik : i = k
          · subst hik; exact HB.out
          · exact hq i (by omega) h2
        case measure => simp [intOf]; omega
    · have b1 : decide (q > 0) = false := decide_eq_false hpos
      go_wp2_with fail
      go_ret2
      exact ⟨none, rfl, fun i h1 h2 => hq i (by omega) h2, rfl⟩

/-- among: boxes for the book and for the run; the iterator over them. -/
theorem starts_among (w : World) (s : Nat) (a b : Int) :
    Calls Try.prog 57 #[.pointer (some ⟨s, 0, none⟩), .agg #[.int .i64 a, .int .i64 b]] w fun e w' =>
      e = .returned (.func (.func 63) #[] #[.pointer (some ⟨w.heap.size + 1, 0, none⟩), .pointer (some ⟨w.heap.size, 0, none⟩)]) ∧
      w' = (w.alloc (.cells #[.pointer (some ⟨s, 0, none⟩)] 40)).alloc (.cells #[.int .i64 a, .int .i64 b] 30) := by
  go_enter Try.func57, Try.ntmps57
  go_wp2_with fail
  go_ret
  exact ⟨rfl, rfl⟩
end Go.Proofs.Ytpldogmamifdpaa

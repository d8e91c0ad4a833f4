/- Package bits: what each call does. -/
import Derived.Test.YtpldogmamifdpaaDoorKit
import Derived.Test.YtpldogmamifdpaaDoorBitsPure
import Derived.WalkMore
import Derived.Deep.LoopGhost
set_option linter.unusedVariables false
set_option linter.unusedSimpArgs false
namespace Go.Proofs.YtpldogmamifdpaaDoor
open Go Go.RowKit

def wordAt (x : List Bool) (k : Nat) : Nat := ofB (fun j => x.getD (64 * k + j) false) 64
def wordsOf (x : List Bool) : List Int := (List.range ((x.length + 63) / 64)).map fun k => (wordAt x k : Int)
theorem wordsOf_length (x : List Bool) : (wordsOf x).length = (x.length + 63) / 64 := by simp [wordsOf]
theorem wordsOf_get (x : List Bool) (k : Nat) (h : k < (wordsOf x).length) : (wordsOf x)[k] = (wordAt x k : Int) := by simp [wordsOf]
theorem wordAt_lt (x : List Bool) (k : Nat) : wordAt x k < 18446744073709551616 := ofB_lt _ 64
theorem words_none (n : Nat) : wordsOf (List.replicate n false) = List.replicate ((n + 63) / 64) 0 := by
  apply List.ext_getElem
  · simp [wordsOf]
  · intro i h1 h2
    rw [wordsOf_get, List.getElem_replicate]
    have : wordAt (List.replicate n false) i = 0 := by
      unfold wordAt
      have h : ∀ m, ofB (fun j => (List.replicate n false).getD (64 * i + j) false) m = 0 := by
        intro m
        induction m with
        | zero => rfl
        | succ m ih =>
          simp only [ofB, ih]
          rw [if_neg]
          simp only [List.getD_eq_getElem?_getD, List.getElem?_replicate]
          split <;> simp
      exact h 64
    rw [this]
    rfl

/-- A row of marks in memory. -/
structure RowAt (w : World) (p g : Nat) (x : List Bool) : Prop where
  pg : p ≠ g
  le : x.length ≤ 16384
  head : w.heap[p]? = some (.cells #[.slice (some ⟨g, 0, none⟩) ((x.length + 63) / 64) ((x.length + 63) / 64), .int .i64 x.length] 88 (0, 0))
  row : w.heap[g]? = some (.cells (ints .u64 (wordsOf x)) 52 (0, 0))
theorem RowAt.ch {w w' : World} {p g : Nat} {x : List Bool} {F : Nat → Prop} (h : RowAt w p g x) (hc : Ch F w w') (hp : ¬ F p) (hg : ¬ F g) : RowAt w' p g x := ⟨h.pg, h.le, hc.heap h.head hp, hc.heap h.row hg⟩
theorem RowAt.ch0 {w w' : World} {p g : Nat} {x : List Bool} (h : RowAt w p g x) (hc : Ch No w w') : RowAt w' p g x := h.ch hc (fun q => q) (fun q => q)
theorem RowAt.lt {w : World} {p g : Nat} {x : List Bool} (h : RowAt w p g x) : p < w.heap.size ∧ g < w.heap.size := ⟨heap_lt h.head, heap_lt h.row⟩

theorem infoU64 : (Tryd.prog.info? 52).map (fun i => (i.zero, i.size, i.bytes)) = some (some (.int .u64 0), 1, 8) := by kernel_rfl

theorem bits_New_no (w : World) (n : Int) (h : n < 0 ∨ 16384 < n) :
    Calls Tryd.prog 37 #[.int .i64 n] w fun e w' => e = .returned (.tuple #[.pointer none, .int .i64 1]) ∧ Ch No w w' := by
  by_cases h0 : n < 0
  · have b1 : decide (n < 0) = true := decide_eq_true h0
    go_enter Tryd.func37, Tryd.ntmps37
    go_wp2_with fail
    go_ret2
    exact ⟨rfl, Ch.refl _ _⟩
  · have b1 : decide (n < 0) = false := decide_eq_false h0
    have b2 : decide (n > 16384) = true := decide_eq_true (by omega)
    go_enter Tryd.func37, Tryd.ntmps37
    go_wp2_with fail
    go_ret2
    exact ⟨rfl, Ch.refl _ _⟩

set_option maxRecDepth 100000 in
theorem bits_New (w : World) (n : Nat) (h : n ≤ 16384) :
    Calls Tryd.prog 37 #[.int .i64 n] w fun e w' => ∃ p g, e = .returned (.tuple #[.pointer (some ⟨p, 0, none⟩), .int .i64 0]) ∧ RowAt w' p g (List.replicate n false) ∧ w.heap.size ≤ p ∧ w.heap.size ≤ g ∧ Ch No w w' := by
  have b1 : decide ((n : Int) < 0) = false := decide_eq_false (by omega)
  have b2 : decide ((n : Int) > 16384) = false := decide_eq_false (by omega)
  have W1 : IntKind.i64.wrap ((n : Int) + 64) = (n : Int) + 64 := IntWalk.i64_in _ (by omega)
  have W2 : IntKind.i64.wrap ((n : Int) + 64 - 1) = ((n + 63 : Nat) : Int) := by rw [IntWalk.i64_in _ (by omega)]; omega
  have T1 : ((n + 63 : Nat) : Int).tdiv 64 = (((n + 63) / 64 : Nat) : Int) := by rw [Int.tdiv_eq_ediv_of_nonneg (by omega)]; omega
  have W3 : IntKind.i64.wrap (((n + 63) / 64 : Nat) : Int) = (((n + 63) / 64 : Nat) : Int) := IntWalk.i64_in _ (by omega)
  obtain ⟨L, hL⟩ : ∃ L, L = (n + 63) / 64 := ⟨_, rfl⟩
  rw [← hL] at T1 W3
  have HL := Lib.hid hL; clear hL
  obtain ⟨n63, hn63⟩ : ∃ z : Int, z = ((n + 63 : Nat) : Int) := ⟨_, rfl⟩
  rw [← hn63] at T1 W2
  clear hn63
  go_enter Tryd.func37, Tryd.ntmps37
  go_wp2_with (at_make; refine wpL_make rfl _ _ _ rfl 52 .u64 8 Tryd.underlying86 infoU64 _ _ _ _ L rfl rfl (by omega) (by omega) (by have := HL.out; omega) (by have := HL.out; omega) ?_)
  go_ret2
  have hLL := HL.out
  have hg := heap_alloc_new w (.cells (ints .u64 (List.replicate L 0)) 52)
  have hh := heap_alloc_new (w.alloc (.cells (ints .u64 (List.replicate L 0)) 52)) (.cells #[.slice (some ⟨w.heap.size, 0, none⟩) L L, .int .i64 n] 88)
  simp only [World.size_alloc] at hh
  refine ⟨w.heap.size + 1, w.heap.size, rfl, ⟨by omega, by simpa using h, ?_, ?_⟩, by omega, by omega, ((Ch.refl _ _).alloc _).alloc _⟩
  · rw [List.length_replicate, ← hLL]
    exact hh
  · rw [words_none, ← hLL]
    exact heap_al hg _

/-- Place 'at' is there, and marked. -/
def getB (x : List Bool) (i : Int) : Bool := decide (0 ≤ i ∧ i < x.length) && x.getD i.toNat false

theorem bits_Len (w : World) (p g : Nat) (x : List Bool) (h : RowAt w p g x) :
    Calls Tryd.prog 19 #[.pointer (some ⟨p, 0, none⟩)] w fun e w' => e = .returned (.int .i64 x.length) ∧ w = w' := by
  have c1 : w.cell? ⟨p, 1, none⟩ = some (.int .i64 x.length) := cellOf h.head 1 rfl
  go_enter Tryd.func19, Tryd.ntmps19
  go_wp2_with fail
  go_ret
  exact ⟨rfl, rfl⟩

theorem read_bit (W s : Nat) (h : W < 18446744073709551616) : (bits BinOp.and IntKind.u64 ((W : Int) / 2 ^ s) 1 == 1) = decide (W / 2 ^ s % 2 = 1) := by
  have e : ((W : Int) / 2 ^ s) = ((W / 2 ^ s : Nat) : Int) := by simp
  have hlt : W / 2 ^ s < 18446744073709551616 := Nat.lt_of_le_of_lt (Nat.div_le_self _ _) h
  rw [e, show (1 : Int) = ((1 : Nat) : Int) from rfl, u64_and_nat _ _ hlt (by omega), nat_mask1]
  have : W / 2 ^ s % 2 < 2 := Nat.mod_lt _ (by omega)
  by_cases h2 : W / 2 ^ s % 2 = 1
  · rw [h2]; rfl
  · have h3 : W / 2 ^ s % 2 = 0 := by omega
    rw [h3]; rfl

set_option maxHeartbeats 1000000 in
theorem bits_Has (w : World) (p g : Nat) (x : List Bool) (i : Int) (h : RowAt w p g x) (hi : I64 i) :
    Calls Tryd.prog 60 #[.pointer (some ⟨p, 0, none⟩), .int .i64 i] w fun e w' => e = .returned (.bool (getB x i)) ∧ w = w' := by
  have c0 : w.cell? ⟨p, 0, none⟩ = some (.slice (some ⟨g, 0, none⟩) ((x.length + 63) / 64) ((x.length + 63) / 64)) := cellOf h.head 0 rfl
  have c1 : w.cell? ⟨p, 1, none⟩ = some (.int .i64 x.length) := cellOf h.head 1 rfl
  have hi' := hi.bd
  have hle := h.le
  unfold getB
  by_cases h0 : i < 0
  · have b1 : decide (i ≥ 0) = false := decide_eq_false (by omega)
    have b3 : decide (0 ≤ i ∧ i < (x.length : Int)) = false := decide_eq_false (by omega)
    rw [b3]
    go_enter Tryd.func60, Tryd.ntmps60
    go_wp2_with fail
    go_ret
    exact ⟨rfl, rfl⟩
  · have b1 : decide (i ≥ 0) = true := decide_eq_true (by omega)
    by_cases h1 : i < x.length
    · have b2 : decide (i < (x.length : Int)) = true := decide_eq_true h1
      have b3 : decide (0 ≤ i ∧ i < (x.length : Int)) = true := decide_eq_true (by omega)
      rw [b3, Bool.true_and]
      obtain ⟨k, rfl⟩ : ∃ k : Nat, i = k := ⟨i.toNat, by omega⟩
      rw [Int.toNat_natCast]
      have T1 : (k : Int).tdiv 64 = ((k / 64 : Nat) : Int) := by rw [Int.tdiv_eq_ediv_of_nonneg (by omega)]; omega
      have T2 : (k : Int).tmod 64 = ((k % 64 : Nat) : Int) := by rw [Int.tmod_eq_emod_of_nonneg (by omega)]; omega
      have W1 : IntKind.i64.wrap ((k / 64 : Nat) : Int) = ((k / 64 : Nat) : Int) := IntWalk.i64_in _ (by omega)
      have W2 : IntKind.i64.wrap ((k % 64 : Nat) : Int) = ((k % 64 : Nat) : Int) := IntWalk.i64_in _ (by omega)
      obtain ⟨L, hL⟩ : ∃ L, L = (x.length + 63) / 64 := ⟨_, rfl⟩
      have hq : k / 64 < L := by omega
      have hlen := wordsOf_length x
      rw [← hL] at hlen c0
      have hcell : w.cell? ⟨g, k / 64, none⟩ = some (.int .u64 (wordAt x (k / 64))) := by
        refine cellOf h.row (k / 64) ?_
        rw [ints_get .u64 (wordsOf x) (k / 64) (by omega), wordsOf_get]
      have hwl := wordAt_lt x (k / 64)
      have hrd := ofB_read (fun j => x.getD (64 * (k / 64) + j) false) 64 (k % 64) (by omega)
      try simp only at hrd
      rw [show 64 * (k / 64) + k % 64 = k by omega] at hrd
      have hrd' : wordAt x (k / 64) / 2 ^ (k % 64) % 2 = if x.getD k false = true then 1 else 0 := hrd
      obtain ⟨W, hW⟩ : ∃ W, W = wordAt x (k / 64) := ⟨_, rfl⟩
      rw [← hW] at hcell hwl hrd'
      obtain ⟨q, hqe⟩ : ∃ q, q = k / 64 := ⟨_, rfl⟩
      obtain ⟨s, hse⟩ : ∃ s, s = k % 64 := ⟨_, rfl⟩
      rw [← hqe] at hcell hq T1 W1
      rw [← hse] at hrd' T2 W2
      have hs64 : s < 64 := by omega
      have hq2 : (q : Int) < (L : Int) := by omega
      have HR := Lib.hid hrd'
      clear hL hlen hW hqe hse hrd hrd'
      go_enter Tryd.func60, Tryd.ntmps60
      go_wp2_with fail
      go_ret
      refine ⟨?_, rfl⟩
      show Ending.returned (Value.bool (bits BinOp.and IntKind.u64 ((W : Int) / 2 ^ s) 1 == 1)) = _
      rw [read_bit W s hwl, HR.out]
      cases hk : x.getD k false <;> simp [List.getD_eq_getElem?_getD] at hk ⊢ <;> simp [hk]
    · have b2 : decide (i < (x.length : Int)) = false := decide_eq_false h1
      have b3 : decide (0 ≤ i ∧ i < (x.length : Int)) = false := decide_eq_false (by omega)
      rw [b3]
      go_enter Tryd.func60, Tryd.ntmps60
      go_wp2_with fail
      go_ret
      exact ⟨rfl, rfl⟩
end Go.Proofs.YtpldogmamifdpaaDoor

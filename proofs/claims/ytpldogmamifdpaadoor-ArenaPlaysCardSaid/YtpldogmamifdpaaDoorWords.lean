/- Layer 1 (words): New, Len, has, places, Fill, Write. -/
import Derived.Test.YtpldogmamifdpaaDoorBits4
import Derived.Test.YtpldogmamifdpaaDoorSeq
set_option linter.unusedVariables false
set_option linter.unusedSimpArgs false
namespace Go.Proofs.YtpldogmamifdpaaDoor
open Go Go.RowKit Go.Shelf

/-- A memory of words. -/
structure MemAt (w : World) (m h : Nat) (W : List Int) : Prop where
  mh : m ≠ h
  le : W.length ≤ 16384
  head : w.heap[m]? = some (.cells #[.slice (some ⟨h, 0, none⟩) W.length W.length] 90 (0, 0))
  row : w.heap[h]? = some (.cells (ints .u64 W) 52 (0, 0))
  rng : ∀ v ∈ W, U64 v
theorem MemAt.ch {w w' : World} {m h : Nat} {W : List Int} {F : Nat → Prop} (hm : MemAt w m h W) (hc : Ch F w w') (h1 : ¬ F m) (h2 : ¬ F h) : MemAt w' m h W := ⟨hm.mh, hm.le, hc.heap hm.head h1, hc.heap hm.row h2, hm.rng⟩
theorem MemAt.ch0 {w w' : World} {m h : Nat} {W : List Int} (hm : MemAt w m h W) (hc : Ch No w w') : MemAt w' m h W := hm.ch hc (fun q => q) (fun q => q)
theorem MemAt.lt {w : World} {m h : Nat} {W : List Int} (hm : MemAt w m h W) : m < w.heap.size ∧ h < w.heap.size := ⟨heap_lt hm.head, heap_lt hm.row⟩
theorem MemAt.cell {w : World} {m h : Nat} {W : List Int} (hm : MemAt w m h W) : w.cell? ⟨m, 0, none⟩ = some (.slice (some ⟨h, 0, none⟩) W.length W.length) := cellOf hm.head 0 rfl

theorem words_New (w : World) (n : Nat) (hn : n ≤ 16384) :
    Calls Tryd.prog 38 #[.int .i64 n] w fun e w' => ∃ m h, e = .returned (.tuple #[.pointer (some ⟨m, 0, none⟩), .int .i64 0]) ∧ MemAt w' m h (List.replicate n 0) ∧ w.heap.size ≤ m ∧ w.heap.size ≤ h ∧ Ch No w w' := by
  have b1 : decide ((n : Int) < 0) = false := decide_eq_false (by omega)
  have b2 : decide ((n : Int) > 16384) = false := decide_eq_false (by omega)
  go_enter Tryd.func38, Tryd.ntmps38
  go_wp2_with (at_make; refine wpL_make rfl _ _ _ rfl 52 .u64 8 Tryd.underlying86 infoU64 _ _ _ _ n rfl rfl (by omega) (by omega) (by omega) (by omega) ?_)
  go_ret2
  have hg := heap_alloc_new w (.cells (ints .u64 (List.replicate n 0)) 52)
  have hh := heap_alloc_new (w.alloc (.cells (ints .u64 (List.replicate n 0)) 52)) (.cells #[.slice (some ⟨w.heap.size, 0, none⟩) n n] 90)
  simp only [World.size_alloc] at hh
  refine ⟨w.heap.size + 1, w.heap.size, rfl, ⟨by omega, by simpa using hn, ?_, heap_al hg _, ?_⟩, by omega, by omega, ((Ch.refl _ _).alloc _).alloc _⟩
  · rw [List.length_replicate]; exact hh
  · intro v hv
    rw [(List.mem_replicate.1 hv).2]
    exact (show _ ∧ _ from by omega)

/-- A run that is there. -/
theorem words_has (w : World) (m h : Nat) (W : List Int) (a b : Int) (hm : MemAt w m h W) (ha : 0 ≤ a) (hb : 0 ≤ b) (hab : a + b ≤ W.length) :
    Calls Tryd.prog 41 #[.pointer (some ⟨m, 0, none⟩), .agg #[.int .i64 a, .int .i64 b]] w fun e w' => e = .returned (.bool true) ∧ Ch No w w' := by
  have hle := hm.le
  have c0 := (hm.ch0 ((Ch.refl No w).alloc (.cells #[.int .i64 a, .int .i64 b] 37))).cell
  have e0 : (w.alloc (.cells #[.int .i64 a, .int .i64 b] 37)).cell? ⟨w.heap.size, 0, none⟩ = some (.int .i64 a) := cellOf (World.alloc_heap_new w _) 0 rfl
  have e1 : (w.alloc (.cells #[.int .i64 a, .int .i64 b] 37)).cell? ⟨w.heap.size, 1, none⟩ = some (.int .i64 b) := cellOf (World.alloc_heap_new w _) 1 rfl
  have b1 : decide (a ≥ 0) = true := decide_eq_true (by omega)
  have b2 : decide (b ≥ 0) = true := decide_eq_true (by omega)
  have b3 : decide (a ≤ (W.length : Int)) = true := decide_eq_true (by omega)
  have W1 : IntKind.i64.wrap ((W.length : Int) - a) = (W.length : Int) - a := IntWalk.i64_in _ (by omega)
  have b4 : decide (b ≤ (W.length : Int) - a) = true := decide_eq_true (by omega)
  have H := Lib.hid hab
  clear hab ha hb
  have hc1 : Ch No w (w.alloc (.cells #[.int .i64 a, .int .i64 b] 37)) := (Ch.refl _ _).alloc _
  go_enter Tryd.func41, Tryd.ntmps41
  go_wp2_with fail
  obtain ⟨w1, hw1⟩ : ∃ z, z = w.alloc (.cells #[.int .i64 a, .int .i64 b] 37) := ⟨_, rfl⟩
  rw [← hw1] at c0 e0 e1 hc1 ⊢
  clear hw1
  go_quiet (fail)
  go_wp2_with fail
  go_ret
  exact ⟨rfl, hc1.drewN _⟩

/-- Write: where the word is not there, nothing is changed. -/
def wroteL (W : List Int) (i v : Int) : List Int := if 0 ≤ i ∧ i < W.length then W.set i.toNat v else W
theorem wroteL_length (W : List Int) (i v : Int) : (wroteL W i v).length = W.length := by unfold wroteL; split <;> simp

theorem MemAt.set {w : World} {m h : Nat} {W : List Int} (hm : MemAt w m h W) (i : Nat) (v : Int) (hv : U64 v) : MemAt (w.setCell ⟨h, i, none⟩ (.int .u64 v)) m h (W.set i v) := by
  have hc : Ch (One h) w (w.setCell ⟨h, i, none⟩ (.int .u64 v)) := Ch.setIn (F := One h) (Ch.refl _ _) (p := ⟨h, i, none⟩) rfl _
  refine ⟨hm.mh, by simpa using hm.le, by rw [List.length_set]; exact hc.heap hm.head hm.mh, ?_, fun u hu => ?_⟩
  · rw [← ints_set]; exact heap_set hm.row _
  · rcases List.mem_or_eq_of_mem_set hu with q | q
    · exact hm.rng u q
    · rw [q]; exact hv

end Go.Proofs.YtpldogmamifdpaaDoor

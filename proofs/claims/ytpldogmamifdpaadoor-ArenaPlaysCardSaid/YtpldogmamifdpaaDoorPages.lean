/- Layer 3 (pages): New, Granted, Fits, Free, there, Grant. -/
import Derived.Test.YtpldogmamifdpaaDoorFill
set_option linter.unusedVariables false
set_option linter.unusedSimpArgs false
namespace Go.Proofs.YtpldogmamifdpaaDoor
open Go Go.RowKit

structure PagesAt (w : World) (s p g m h : Nat) (x : List Bool) (W : List Int) : Prop where
  sp : s ≠ p
  sg : s ≠ g
  sm : s ≠ m
  sh : s ≠ h
  pm : p ≠ m
  ph : p ≠ h
  gm : g ≠ m
  gh : g ≠ h
  head : w.heap[s]? = some (.cells #[.pointer (some ⟨p, 0, none⟩), .pointer (some ⟨m, 0, none⟩)] 44 (0, 0))
  row : RowAt w p g x
  mem : MemAt w m h W
  le : x.length ≤ 1024
  len : W.length = 16 * x.length
theorem PagesAt.ch {w w' : World} {s p g m h : Nat} {x : List Bool} {W : List Int} {F : Nat → Prop} (k : PagesAt w s p g m h x W) (hc : Ch F w w') (h1 : ¬ F s) (h2 : ¬ F p) (h3 : ¬ F g) (h4 : ¬ F m) (h5 : ¬ F h) : PagesAt w' s p g m h x W :=
  ⟨k.sp, k.sg, k.sm, k.sh, k.pm, k.ph, k.gm, k.gh, hc.heap k.head h1, k.row.ch hc h2 h3, k.mem.ch hc h4 h5, k.le, k.len⟩
theorem PagesAt.ch0 {w w' : World} {s p g m h : Nat} {x : List Bool} {W : List Int} (k : PagesAt w s p g m h x W) (hc : Ch No w w') : PagesAt w' s p g m h x W :=
  k.ch hc (fun q => q) (fun q => q) (fun q => q) (fun q => q) (fun q => q)
theorem PagesAt.lt {w : World} {s p g m h : Nat} {x : List Bool} {W : List Int} (k : PagesAt w s p g m h x W) : s < w.heap.size ∧ p < w.heap.size ∧ g < w.heap.size ∧ m < w.heap.size ∧ h < w.heap.size := ⟨heap_lt k.head, k.row.lt.1, k.row.lt.2, k.mem.lt.1, k.mem.lt.2⟩
theorem PagesAt.c0 {w : World} {s p g m h : Nat} {x : List Bool} {W : List Int} (k : PagesAt w s p g m h x W) : w.cell? ⟨s, 0, none⟩ = some (.pointer (some ⟨p, 0, none⟩)) := cellOf k.head 0 rfl
theorem PagesAt.c1 {w : World} {s p g m h : Nat} {x : List Bool} {W : List Int} (k : PagesAt w s p g m h x W) : w.cell? ⟨s, 1, none⟩ = some (.pointer (some ⟨m, 0, none⟩)) := cellOf k.head 1 rfl

theorem quiet_eqP {P : Program} {f : FuncId} {args : Array Value} {w : World} {n : Nat} {v : Value}
    (h : Calls P f args (w.drewN n) fun e w' => e = .returned v ∧ w.drewN n = w') : Calls P f args (w.drewN n) fun e w'' => e = .returned v ∧ ∃ m, w'' = w.drewN m :=
  h.mono fun _ _ ⟨he, hm⟩ => ⟨he, n, hm.symm⟩

theorem pages_New_no (w : World) (n : Int) (h : n < 1 ∨ 1024 < n) :
    Calls Tryd.prog 14 #[.int .i64 n] w fun e w' => e = .returned (.tuple #[.pointer none, .int .i64 1]) ∧ w = w' := by
  by_cases h0 : n < 1
  · have b1 : decide (n < 1) = true := decide_eq_true h0
    go_enter Tryd.func14, Tryd.ntmps14
    go_wp2_with fail
    go_ret2
    exact ⟨rfl, rfl⟩
  · have b1 : decide (n < 1) = false := decide_eq_false h0
    have b2 : decide (n > 1024) = true := decide_eq_true (by omega)
    go_enter Tryd.func14, Tryd.ntmps14
    go_wp2_with fail
    go_ret2
    exact ⟨rfl, rfl⟩

theorem pages_New (w : World) (n : Nat) (h1 : 1 ≤ n) (h2 : n ≤ 1024) :
    Calls Tryd.prog 14 #[.int .i64 n] w fun e w' => ∃ s p g m h, e = .returned (.tuple #[.pointer (some ⟨s, 0, none⟩), .int .i64 0]) ∧ PagesAt w' s p g m h (List.replicate n false) (List.replicate (16 * n) 0) ∧ w.heap.size ≤ s ∧ w.heap.size ≤ p ∧ w.heap.size ≤ g ∧ w.heap.size ≤ m ∧ w.heap.size ≤ h ∧ Ch No w w' := by
  have b1 : decide ((n : Int) < 1) = false := decide_eq_false (by omega)
  have b2 : decide ((n : Int) > 1024) = false := decide_eq_false (by omega)
  have W1 : IntKind.i64.wrap ((n : Int) * 16) = ((16 * n : Nat) : Int) := by rw [IntWalk.i64_in _ (by omega)]; omega
  have hb := bits_New w n (by omega)
  have hm := fun W => words_New W (16 * n) (by omega)
  obtain ⟨M, hM⟩ : ∃ z, z = 16 * n := ⟨_, rfl⟩
  simp only [← hM] at W1 hm ⊢
  have HM := Lib.hid hM
  clear hM
  go_enter Tryd.func14, Tryd.ntmps14
  go_wp2_with fail
  with_reducible refine hb.mono ?_
  rintro e w1 ⟨p, g, rfl, hr1, hp, hg, hc1⟩
  dsimp only
  go_wp2_with fail
  with_reducible refine (hm w1).mono ?_
  rintro e w2 ⟨m, h, rfl, hm2, hmm, hh, hc2⟩
  have hs1 := hc1.size
  have hrl := hr1.lt
  have hml := hm2.lt
  have hs2 := hc2.size
  dsimp only
  go_wp2_with fail
  go_ret2
  have hal : Ch No w2 (w2.alloc (.cells #[.pointer (some ⟨p, 0, none⟩), .pointer (some ⟨m, 0, none⟩)] 44)) := (Ch.refl _ _).alloc _
  have hne := hr1.pg
  exact ⟨_, p, g, m, h, rfl, ⟨by omega, by omega, by omega, by omega, by omega, by omega, by omega, by omega, World.alloc_heap_new _ _, (hr1.ch0 hc2).ch0 hal, hm2.ch0 hal, by simpa using h2, by simp [HM.out]⟩, by omega, hp, hg, by omega, by omega, (hc1.trans hc2).trans hal⟩

theorem pages_Mem (w : World) (s p g m h : Nat) (x : List Bool) (W : List Int) (k : PagesAt w s p g m h x W) :
    Calls Tryd.prog 21 #[.pointer (some ⟨s, 0, none⟩)] w fun e w' => e = .returned (.pointer (some ⟨m, 0, none⟩)) ∧ w = w' := by
  have c1 := k.c1
  go_enter Tryd.func21, Tryd.ntmps21
  go_wp2_with fail
  go_ret
  exact ⟨rfl, rfl⟩

theorem pages_Free (w : World) (s p g m h : Nat) (x : List Bool) (W : List Int) (k : PagesAt w s p g m h x W) :
    Calls Tryd.prog 18 #[.pointer (some ⟨s, 0, none⟩)] w fun e w' => e = .returned (.int .i64 ((x.length : Int) - cntTo x x.length)) ∧ Ch No w w' := by
  have c0 := k.c0
  have hle := k.le
  have hcl : cntTo x x.length ≤ x.length := popB_le _ _
  have hl := fun n : Nat => bits_Len (w.drewN n) p g x (k.row.ch0 ((Ch.refl _ _).drewN n))
  have hct := fun n : Nat => bits_Count (w.drewN n) p g x (k.row.ch0 ((Ch.refl _ _).drewN n))
  obtain ⟨C, hC⟩ : ∃ z, z = cntTo x x.length := ⟨_, rfl⟩
  obtain ⟨N, hN⟩ : ∃ z, z = x.length := ⟨_, rfl⟩
  simp only [← hC] at hct hcl ⊢
  simp only [← hN] at hl hcl hle ⊢
  have W1 : IntKind.i64.wrap ((N : Int) - C) = (N : Int) - C := IntWalk.i64_in _ (by omega)
  clear hC hN
  go_enter Tryd.func18, Tryd.ntmps18
  go_wp2_with fail
  go_quiet (first | (go_at_call 19; with_reducible exact quiet_eqP (hl _)) | (go_at_call 40; with_reducible exact quiet_eqP (hct _)))
  go_wp2_with fail
  go_ret
  exact ⟨rfl, (Ch.refl _ _).drewN _⟩

/-- What Find answers, of whatever number. -/
def FindI (x : List Bool) (n : Int) (r : Option Nat) : Prop := if n < 1 then r = none else IsFind x n.toNat r
theorem FindI.uniq {x : List Bool} {n : Int} {r r' : Option Nat} (h : FindI x n r) (h' : FindI x n r') : r = r' := by
  unfold FindI at h h'
  by_cases h1 : n < 1
  · rw [if_pos h1] at h h'; rw [h, h']
  · rw [if_neg h1] at h h'; exact h.uniq h'
theorem bits_FindI (w : World) (p g : Nat) (x : List Bool) (n : Int) (h : RowAt w p g x) (hn : I64 n) :
    Calls Tryd.prog 49 #[.pointer (some ⟨p, 0, none⟩), .int .i64 n] w fun e w' => ∃ r, e = .returned (optV r) ∧ FindI x n r ∧ w = w' := by
  unfold FindI
  have hn' := hn.bd
  by_cases h1 : n < 1
  · refine (bits_Find_no w p g x n h1).mono ?_
    rintro e w' ⟨rfl, rfl⟩
    exact ⟨none, rfl, by rw [if_pos h1], rfl⟩
  · have := bits_Find w p g x n.toNat h (by omega) (by omega)
    rw [show ((n.toNat : Nat) : Int) = n by omega] at this
    refine this.mono ?_
    rintro e w' ⟨r, rfl, hr, rfl⟩
    exact ⟨r, rfl, by rw [if_neg h1]; exact hr, rfl⟩

theorem pages_Fits (w : World) (s p g m h : Nat) (x : List Bool) (W : List Int) (n : Int) (k : PagesAt w s p g m h x W) (hn : I64 n) :
    Calls Tryd.prog 34 #[.pointer (some ⟨s, 0, none⟩), .int .i64 n] w fun e w' => ∃ r, e = .returned (.bool r.isSome) ∧ FindI x n r ∧ w = w' := by
  have c0 := k.c0
  go_enter Tryd.func34, Tryd.ntmps34
  go_wp2_with fail
  with_reducible refine (bits_FindI w p g x n k.row hn).mono ?_
  rintro e w1 ⟨r, rfl, hr, rfl⟩
  have HR := Lib.hid hr
  clear hr
  cases r with
  | none =>
    rw [show optV none = .tuple #[.int .i64 0, .bool false] from rfl]
    dsimp only
    go_wp2_with fail
    go_ret
    exact ⟨none, rfl, HR.out, rfl⟩
  | some j =>
    rw [show optV (some j) = .tuple #[.int .i64 j, .bool true] from rfl]
    dsimp only
    go_wp2_with fail
    go_ret
    exact ⟨some j, rfl, HR.out, rfl⟩

/-- Behind a Grant. -/
theorem pages_Grant (w : World) (s p g m h : Nat) (x : List Bool) (W : List Int) (n : Int) (k : PagesAt w s p g m h x W) (hn : I64 n) :
    Calls Tryd.prog 32 #[.pointer (some ⟨s, 0, none⟩), .int .i64 n] w fun e w' =>
      if n < 1 then e = .returned (.tuple #[.int .i64 0, .int .i64 1]) ∧ w = w' else
      ∃ r, IsFind x n.toNat r ∧ match r with
        | none => e = .returned (.tuple #[.int .i64 0, .int .i64 3]) ∧ w = w'
        | some j => e = .returned (.tuple #[.int .i64 j, .int .i64 0]) ∧ PagesAt w' s p g m h (markB x j true n.toNat) (fillL W (16 * j) 0 (16 * n.toNat)) ∧ Ch (Two g h) w w' := by
  have c0 := k.c0
  have hn' := hn.bd
  have hle := k.le
  by_cases h1 : n < 1
  · have b1 : decide (n < 1) = true := decide_eq_true h1
    simp only [if_pos h1]
    go_enter Tryd.func32, Tryd.ntmps32
    go_wp2_with fail
    go_ret2
    exact ⟨rfl, rfl⟩
  · have b1 : decide (n < 1) = false := decide_eq_false h1
    simp only [if_neg h1]
    obtain ⟨N, rfl⟩ : ∃ N : Nat, n = N := ⟨n.toNat, by omega⟩
    have hf := bits_Find w p g x N k.row (by omega) (by omega)
    simp only [Int.toNat_natCast]
    go_enter Tryd.func32, Tryd.ntmps32
    go_wp2_with fail
    with_reducible refine hf.mono ?_
    rintro e w1 ⟨r, rfl, hr, rfl⟩
    cases r with
    | none =>
      rw [show optV none = .tuple #[.int .i64 0, .bool false] from rfl]
      have HR := Lib.hid hr
      clear hr hf
      dsimp only
      go_wp2_with fail
      go_ret2
      exact ⟨none, HR.out, rfl, rfl⟩
    | some j =>
      rw [show optV (some j) = .tuple #[.int .i64 j, .bool true] from rfl]
      have hfree : j + N ≤ x.length := hr.1.1
      have HR := Lib.hid hr
      have hmk := bits_Mark w p g x j N true k.row hfree
      have W1 : IntKind.i64.wrap ((j : Int) * 16) = ((16 * j : Nat) : Int) := by rw [IntWalk.i64_in _ (by omega)]; omega
      have W2 : IntKind.i64.wrap ((N : Int) * 16) = ((16 * N : Nat) : Int) := by rw [IntWalk.i64_in _ (by omega)]; omega
      have hfl := fun w1 (hm : MemAt w1 m h W) => words_Fill w1 m h W (16 * j) (16 * N) 0 hm (by have := k.len; omega) (show _ ∧ _ from by omega)
      obtain ⟨J, hJ⟩ : ∃ z, z = 16 * j := ⟨_, rfl⟩
      obtain ⟨M, hM⟩ : ∃ z, z = 16 * N := ⟨_, rfl⟩
      rw [← hJ] at W1
      rw [← hM] at W2
      simp only [← hJ, ← hM] at hfl
      have HJ := Lib.hid hJ
      have HM := Lib.hid hM
      have HF := Lib.hid hfree
      clear hr hf hJ hM hfree
      dsimp only
      go_wp2_with fail
      with_reducible refine hmk.mono ?_
      rintro e w2 ⟨rfl, hr2, hc2⟩
      have e1 := hc2.cell k.c1 (fun q => k.sg q)
      have hm2 := k.mem.ch hc2 (fun q => k.gm q.symm) (fun q => k.gh q.symm)
      dsimp only
      go_wp2_with fail
      with_reducible refine (hfl _ hm2).mono ?_
      rintro e w3 ⟨rfl, hm3, hc3⟩
      dsimp only
      go_wp2_with fail
      go_ret2
      refine ⟨some j, HR.out, rfl, ⟨k.sp, k.sg, k.sm, k.sh, k.pm, k.ph, k.gm, k.gh, hc3.heap (hc2.heap k.head (fun q => k.sg q)) (fun q => k.sh q), hr2.ch hc3 (fun q => k.ph q) (fun q => k.gh q), ?_, by rw [markB_length]; exact k.le, by rw [fillL_length, markB_length]; exact k.len⟩, (hc2.mono fun q hq => .inl hq).trans (hc3.mono fun q hq => .inr hq)⟩
      rw [← HJ.out, ← HM.out]
      exact hm3

/-- What a Grant answers, and leaves. -/
def GrantTo (x : List Bool) (W : List Int) (n a E : Int) (x' : List Bool) (W' : List Int) : Prop :=
  (n < 1 ∧ a = 0 ∧ E = 1 ∧ x' = x ∧ W' = W) ∨ (1 ≤ n ∧ IsFind x n.toNat none ∧ a = 0 ∧ E = 3 ∧ x' = x ∧ W' = W) ∨
    (1 ≤ n ∧ ∃ j : Nat, IsFind x n.toNat (some j) ∧ a = j ∧ E = 0 ∧ x' = markB x j true n.toNat ∧ W' = fillL W (16 * j) 0 (16 * n.toNat))
theorem pages_Grant_all (w : World) (s p g m h : Nat) (x : List Bool) (W : List Int) (n : Int) (k : PagesAt w s p g m h x W) (hn : I64 n) :
    Calls Tryd.prog 32 #[.pointer (some ⟨s, 0, none⟩), .int .i64 n] w fun e w' => ∃ a E x' W', e = .returned (.tuple #[.int .i64 a, .int .i64 E]) ∧ PagesAt w' s p g m h x' W' ∧ Ch (Two g h) w w' ∧ GrantTo x W n a E x' W' := by
  refine (pages_Grant w s p g m h x W n k hn).mono ?_
  intro e w' hq
  by_cases h1 : n < 1
  · rw [if_pos h1] at hq
    obtain ⟨rfl, rfl⟩ := hq
    exact ⟨_, _, x, W, rfl, k, Ch.refl _ _, .inl ⟨h1, rfl, rfl, rfl, rfl⟩⟩
  · rw [if_neg h1] at hq
    obtain ⟨r, hr, hq⟩ := hq
    cases r with
    | none =>
      obtain ⟨rfl, rfl⟩ := hq
      exact ⟨_, _, x, W, rfl, k, Ch.refl _ _, .inr (.inl ⟨by omega, hr, rfl, rfl, rfl, rfl⟩)⟩
    | some j =>
      obtain ⟨rfl, hk, hc⟩ := hq
      exact ⟨_, _, _, _, rfl, hk, hc, .inr (.inr ⟨by omega, j, hr, rfl, rfl, rfl, rfl⟩)⟩
end Go.Proofs.YtpldogmamifdpaaDoor

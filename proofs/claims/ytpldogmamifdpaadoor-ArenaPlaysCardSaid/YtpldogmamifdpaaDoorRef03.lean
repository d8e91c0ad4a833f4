/- The document's answer for layer 3: New, Grant, Back. -/
import Derived.Test.YtpldogmamifdpaaDoorPages2
import Derived.Test.YtpldogmamifdpaaDoorRef02c
set_option linter.unusedVariables false
set_option linter.unusedSimpArgs false
namespace Go.Proofs.YtpldogmamifdpaaDoor
open Go Go.RowKit

theorem ref03_New_no (w : World) (n : Int) (h : n < 1 ∨ 1024 < n) :
    Calls Tryd.prog 24 #[.int .i64 n] w fun e w' => ∃ v, e = .returned (.tuple #[v, .int .i64 1]) ∧ Ch No w w' := by
  by_cases h0 : n < 1
  · have b1 : decide (n < 1) = true := decide_eq_true h0
    go_enter Tryd.func24, Tryd.ntmps24
    go_wp2_with fail
    go_ret2
    first | exact ⟨_, rfl, (Ch.refl _ _).alloc _⟩ | exact ⟨⟨_, rfl⟩, (Ch.refl _ _).alloc _⟩
  · have b1 : decide (n < 1) = false := decide_eq_false h0
    have b2 : decide (n > 1024) = true := decide_eq_true (by omega)
    go_enter Tryd.func24, Tryd.ntmps24
    go_wp2_with fail
    go_ret2
    first | exact ⟨_, rfl, (Ch.refl _ _).alloc _⟩ | exact ⟨⟨_, rfl⟩, (Ch.refl _ _).alloc _⟩

theorem ref03_New (F : Nat → Prop) (w : World) (n : Nat) (h1 : 1 ≤ n) (h2 : n ≤ 1024) (hF : ∀ k, F k → k < w.heap.size) :
    Calls Tryd.prog 24 #[.int .i64 n] w fun e w' => ∃ q c, e = .returned (.tuple #[.slice q n c, .int .i64 0]) ∧ SlR boolRp F w' q c (List.replicate n false) ∧ Ch No w w' := by
  have b1 : decide ((n : Int) < 1) = false := decide_eq_false (by omega)
  have b2 : decide ((n : Int) > 1024) = false := decide_eq_false (by omega)
  go_enter Tryd.func24, Tryd.ntmps24
  go_wp2_with fail
  with_reducible refine (ref02_New F w n (by omega) hF).mono ?_
  rintro e w1 ⟨v, rfl, hv, hc⟩
  obtain ⟨q, c, rfl, hs⟩ := hv.sl hF
  rw [List.length_replicate]
  dsimp only
  go_wp2_with fail
  go_ret2
  exact ⟨q, c, rfl, hs, hc⟩

/-- What a Grant answers and leaves, of the marks alone. -/
def GrantX (x : List Bool) (n a E : Int) (x' : List Bool) : Prop :=
  (n < 1 ∧ a = 0 ∧ E = 1 ∧ x' = x) ∨ (1 ≤ n ∧ IsFind x n.toNat none ∧ a = 0 ∧ E = 3 ∧ x' = x) ∨
    (1 ≤ n ∧ ∃ j : Nat, IsFind x n.toNat (some j) ∧ a = j ∧ E = 0 ∧ x' = markB x j true n.toNat)
theorem GrantTo.x {x : List Bool} {W : List Int} {n a E : Int} {x' : List Bool} {W' : List Int} (h : GrantTo x W n a E x' W') : GrantX x n a E x' := by
  rcases h with ⟨h1, h2, h3, h4, _⟩ | ⟨h1, h2, h3, h4, h5, _⟩ | ⟨h1, j, h2, h3, h4, h5, _⟩
  · exact .inl ⟨h1, h2, h3, h4⟩
  · exact .inr (.inl ⟨h1, h2, h3, h4, h5⟩)
  · exact .inr (.inr ⟨h1, j, h2, h3, h4, h5⟩)
theorem GrantX.uniq {x : List Bool} {n a E a' E' : Int} {x' x'' : List Bool} (h : GrantX x n a E x') (h' : GrantX x n a' E' x'') : a' = a ∧ E' = E ∧ x'' = x' := by
  rcases h with ⟨h1, rfl, rfl, rfl⟩ | ⟨h1, h2, rfl, rfl, rfl⟩ | ⟨h1, j, h2, rfl, rfl, rfl⟩ <;> rcases h' with ⟨g1, rfl, rfl, rfl⟩ | ⟨g1, g2, rfl, rfl, rfl⟩ | ⟨g1, j', g2, rfl, rfl, rfl⟩
  · exact ⟨rfl, rfl, rfl⟩
  · omega
  · omega
  · omega
  · exact ⟨rfl, rfl, rfl⟩
  · exact absurd (h2.uniq g2) (by simp)
  · omega
  · exact absurd (h2.uniq g2) (by simp)
  · obtain rfl := Option.some.inj (h2.uniq g2)
    exact ⟨rfl, rfl, rfl⟩
theorem GrantX.len {x : List Bool} {n a E : Int} {x' : List Bool} (h : GrantX x n a E x') : x'.length = x.length := by
  rcases h with ⟨_, _, _, rfl⟩ | ⟨_, _, _, _, rfl⟩ | ⟨_, j, _, _, _, rfl⟩
  · rfl
  · rfl
  · rw [markB_length]

theorem ref02_FindI (F : Nat → Prop) (w : World) (q : Option Addr) (c : Nat) (x : List Bool) (n : Int) (h : SlR boolRp F w q c x) (hx : x.length ≤ 100000) (hn : I64 n) :
    Calls Tryd.prog 59 #[.slice q x.length c, .int .i64 n] w fun e w' => ∃ r, e = .returned (optV r) ∧ FindI x n r ∧ Ch No w w' := by
  unfold FindI
  have hn' := hn.bd
  by_cases h1 : n < 1
  · refine (ref02_Find_no w q c x.length n h1).mono ?_
    rintro e w' ⟨rfl, hc⟩
    exact ⟨none, rfl, by rw [if_pos h1], hc⟩
  · have := ref02_Find F w q c x n.toNat h (by omega) (by omega) hx
    rw [show ((n.toNat : Nat) : Int) = n by omega] at this
    refine this.mono ?_
    rintro e w' ⟨r, rfl, hr, hc⟩
    exact ⟨r, rfl, by rw [if_neg h1]; exact hr, hc⟩

theorem ref03_Grant (F : Nat → Prop) (w : World) (q : Option Addr) (c : Nat) (x : List Bool) (n : Int) (h : SlR boolRp F w q c x) (hx : x.length ≤ 1024) (hn : I64 n) (hF : ∀ k, F k → k < w.heap.size) :
    Calls Tryd.prog 46 #[.slice q x.length c, .int .i64 n] w fun e w' => ∃ q' c' x' a E, e = .returned (.tuple #[.slice q' x.length c', .int .i64 a, .int .i64 E]) ∧ SlR boolRp F w' q' c' x' ∧ Ch No w w' ∧ GrantX x n a E x' := by
  have hn' := hn.bd
  by_cases h1 : n < 1
  · have b1 : decide (n < 1) = true := decide_eq_true h1
    have HG := Lib.hid (show GrantX x n 0 1 x from .inl ⟨h1, rfl, rfl, rfl⟩)
    clear h1
    go_enter Tryd.func46, Tryd.ntmps46
    go_wp2_with fail
    refine bodyPost_ret (results_tmp3 rfl _ _ _) rfl ?_
    exact ⟨q, c, x, 0, 1, rfl, h, Ch.refl _ _, HG.out⟩
  · have b1 : decide (n < 1) = false := decide_eq_false h1
    obtain ⟨N, rfl⟩ : ∃ N : Nat, n = N := ⟨n.toNat, by omega⟩
    have hf := ref02_Find F w q c x N h (by omega) (by omega) (by omega)
    have hN1 : 1 ≤ (N : Int) := by omega
    go_enter Tryd.func46, Tryd.ntmps46
    go_wp2_with fail
    with_reducible refine hf.mono ?_
    rintro e w1 ⟨r, rfl, hr, hc1⟩
    cases r with
    | none =>
      rw [show optV none = .tuple #[.int .i64 0, .bool false] from rfl]
      have HG := Lib.hid (show GrantX x N 0 3 x from .inr (.inl ⟨hN1, by rw [Int.toNat_natCast]; exact hr, rfl, rfl, rfl⟩))
      clear hr hf
      dsimp only
      go_wp2_with fail
      refine bodyPost_ret (results_tmp3 rfl _ _ _) rfl ?_
      exact ⟨q, c, x, 0, 3, rfl, h.ch0 hc1, hc1, HG.out⟩
    | some j =>
      rw [show optV (some j) = .tuple #[.int .i64 j, .bool true] from rfl]
      have HG := Lib.hid (show GrantX x N j 0 (markB x j true N) from .inr (.inr ⟨hN1, j, by rw [Int.toNat_natCast]; exact hr, rfl, rfl, by rw [Int.toNat_natCast]⟩))
      have hmk := ref02_Mark F w1 q c x j N true (h.ch0 hc1) hr.1.1 (by omega) (fun k hk => by have := hF k hk; have := hc1.size; omega)
      have hF1 : ∀ k, F k → k < w1.heap.size := fun k hk => by have := hF k hk; have := hc1.size; omega
      clear hr hf
      dsimp only
      go_wp2_with fail
      with_reducible refine hmk.mono ?_
      rintro e w2 ⟨v, rfl, hv, hc2⟩
      obtain ⟨q', c', rfl, hs⟩ := hv.sl hF1
      rw [markB_length]
      dsimp only
      go_wp2_with fail
      refine bodyPost_ret (results_tmp3 rfl _ _ _) rfl ?_
      exact ⟨q', c', _, _, 0, rfl, hs, hc1.trans hc2, HG.out⟩

theorem BackTo.uniq {x : List Bool} {a b E E' : Int} {x' x'' : List Bool} (h : BackTo x a b E x') (h' : BackTo x a b E' x'') : E' = E ∧ x'' = x' := by
  rcases h with ⟨h1, rfl, rfl⟩ | ⟨h1, h2, h3, rfl, rfl⟩ | ⟨h1, h2, h3, rfl, rfl⟩ <;> rcases h' with ⟨g1, rfl, rfl⟩ | ⟨g1, g2, g3, rfl, rfl⟩ | ⟨g1, g2, g3, rfl, rfl⟩
  · exact ⟨rfl, rfl⟩
  · rcases h1 with h1 | h1
    · omega
    · exact absurd g2 h1
  · rcases h1 with h1 | h1
    · omega
    · exact absurd g3 h1
  · rcases g1 with g1 | g1
    · omega
    · exact absurd h2 g1
  · exact ⟨rfl, rfl⟩
  · rw [h3] at g2; cases g2
  · rcases g1 with g1 | g1
    · omega
    · exact absurd h3 g1
  · rw [h2] at g3; cases g3
  · exact ⟨rfl, rfl⟩
theorem BackTo.len {x : List Bool} {a b E : Int} {x' : List Bool} (h : BackTo x a b E x') : x'.length = x.length := by
  rcases h with ⟨_, _, rfl⟩ | ⟨_, _, _, _, rfl⟩ | ⟨_, _, _, _, rfl⟩
  · rfl
  · rfl
  · rw [markB_length]

theorem ref03_Back (F : Nat → Prop) (w : World) (q : Option Addr) (c : Nat) (x : List Bool) (a b : Int) (h : SlR boolRp F w q c x) (hx : x.length ≤ 1024) (ha : I64 a) (hb : I64 b) (hF : ∀ k, F k → k < w.heap.size) :
    Calls Tryd.prog 44 #[.slice q x.length c, .agg #[.int .i64 a, .int .i64 b]] w fun e w' => ∃ q' c' x' E, e = .returned (.tuple #[.slice q' x.length c', .int .i64 E]) ∧ SlR boolRp F w' q' c' x' ∧ Ch No w w' ∧ BackTo x a b E x' := by
  have ha' := ha.bd
  have hb' := hb.bd
  obtain ⟨w0, hw0⟩ : ∃ z, z = w.alloc (.cells #[.int .i64 a, .int .i64 b] 37) := ⟨_, rfl⟩
  have hal : Ch No w w0 := by rw [hw0]; exact (Ch.refl _ _).alloc _
  have d0 : w0.cell? ⟨w.heap.size, 0, none⟩ = some (.int .i64 a) := by rw [hw0]; exact cellOf (World.alloc_heap_new _ _) 0 rfl
  have d1 : w0.cell? ⟨w.heap.size, 1, none⟩ = some (.int .i64 b) := by rw [hw0]; exact cellOf (World.alloc_heap_new _ _) 1 rfl
  have HW0 := Lib.hid hw0
  clear hw0
  by_cases h1 : b < 1
  · have b1 : decide (b < 1) = true := decide_eq_true h1
    have HB := Lib.hid (show BackTo x a b 8 x from .inl ⟨.inl h1, rfl, rfl⟩)
    clear h1
    go_enter Tryd.func44, Tryd.ntmps44
    go_wp2_with fail
    rw [← HW0.out]
    go_ret2
    exact ⟨q, c, x, 8, rfl, h.ch0 hal, hal, HB.out⟩
  · have b1 : decide (b < 1) = false := decide_eq_false h1
    have hft := ref02_Fits w0 q c x.length a b ha hb (by omega)
    by_cases hf : fitsB x.length a b
    · rw [decide_eq_true hf] at hft
      have hwh := fun w1 (hs : SlR boolRp F w1 q c x) => ref02_Whole F w1 q c x a b true hs ha hb (by omega)
      cases hw : wholeB x a b true with
      | false =>
        rw [hw] at hwh
        have HB := Lib.hid (show BackTo x a b 2 x from .inr (.inl ⟨by omega, hf, hw, rfl, rfl⟩))
        clear h1 hf hw
        go_enter Tryd.func44, Tryd.ntmps44
        go_wp2_with fail
        rw [← HW0.out]
        with_reducible refine hft.mono ?_
        rintro e w1 ⟨rfl, hc1⟩
        have d0 := hc1.cell d0 (fun q => q)
        have d1 := hc1.cell d1 (fun q => q)
        have hs1 := (h.ch0 hal).ch0 hc1
        dsimp only
        go_wp2_with fail
        with_reducible refine (hwh _ hs1).mono ?_
        rintro e w2 ⟨rfl, hc2⟩
        dsimp only
        go_wp2_with fail
        go_ret2
        exact ⟨q, c, x, 2, rfl, hs1.ch0 hc2, (hal.trans hc1).trans hc2, HB.out⟩
      | true =>
        rw [hw] at hwh
        have HB := Lib.hid (show BackTo x a b 0 (markB x a.toNat false b.toNat) from .inr (.inr ⟨by omega, hw, hf, rfl, rfl⟩))
        have hmk := fun w1 (hs : SlR boolRp F w1 q c x) (hF1 : ∀ k, F k → k < w1.heap.size) => ref02_Mark F w1 q c x a.toNat b.toNat false hs (by unfold fitsB at hf; omega) (by omega) hF1
        rw [show ((a.toNat : Nat) : Int) = a by unfold fitsB at hf; omega, show ((b.toNat : Nat) : Int) = b by omega] at hmk
        clear h1 hf hw
        go_enter Tryd.func44, Tryd.ntmps44
        go_wp2_with fail
        rw [← HW0.out]
        with_reducible refine hft.mono ?_
        rintro e w1 ⟨rfl, hc1⟩
        have d0 := hc1.cell d0 (fun q => q)
        have d1 := hc1.cell d1 (fun q => q)
        have hs1 := (h.ch0 hal).ch0 hc1
        dsimp only
        go_wp2_with fail
        with_reducible refine (hwh _ hs1).mono ?_
        rintro e w2 ⟨rfl, hc2⟩
        have d0 := hc2.cell d0 (fun q => q)
        have d1 := hc2.cell d1 (fun q => q)
        have hs2 := hs1.ch0 hc2
        have hF2 : ∀ k, F k → k < w2.heap.size := fun k hk => by have := hF k hk; have := hal.size; have := hc1.size; have := hc2.size; omega
        dsimp only
        go_wp2_with fail
        with_reducible refine (hmk _ hs2 hF2).mono ?_
        rintro e w3 ⟨v, rfl, hv, hc3⟩
        obtain ⟨q', c', rfl, hs3⟩ := hv.sl hF2
        rw [markB_length]
        dsimp only
        go_wp2_with fail
        go_ret2
        exact ⟨q', c', _, 0, rfl, hs3, ((hal.trans hc1).trans hc2).trans hc3, HB.out⟩
    · rw [decide_eq_false hf] at hft
      have HB := Lib.hid (show BackTo x a b 8 x from .inl ⟨.inr hf, rfl, rfl⟩)
      clear h1 hf
      go_enter Tryd.func44, Tryd.ntmps44
      go_wp2_with fail
      rw [← HW0.out]
      with_reducible refine hft.mono ?_
      rintro e w1 ⟨rfl, hc1⟩
      dsimp only
      go_wp2_with fail
      go_ret2
      exact ⟨q, c, x, 8, rfl, (h.ch0 hal).ch0 hc1, hal.trans hc1, HB.out⟩
end Go.Proofs.YtpldogmamifdpaaDoor

/- Package owner: what each call does with a map of pages in memory. -/
import Derived.Test.YtlmaflhfedbmdaaMaps
set_option linter.unusedVariables false
set_option linter.unusedSimpArgs false
namespace Go.Proofs.Ytlmaflhfedbmdaa
open Go Go.RowKit

/-- What the map of groups m holds: page i is f i's. G: the blocks. -/
structure GroupsAt (w : World) (p m : Nat) (f : Int → Int) (G : Nat → Prop) (al : AL) : Prop where
  map : MapAt w m al
  no : ∀ k, aGet al k = none → ∀ j : Int, 0 ≤ j → j < 32 → f (32 * k + j) = 0
  yes : ∀ k v, aGet al k = some v → ∃ g c, v = .pointer (some ⟨g, 0, none⟩) ∧ g ≠ p ∧ g ≠ m ∧ G g ∧ w.heap[g]? = some (.cells c 104) ∧ c.size = 32 ∧ ∀ j : Nat, j < 32 → c[j]? = some (.int .i64 (f (32 * k + j)))
  inj : ∀ k k' g, aGet al k = some (.pointer (some ⟨g, 0, none⟩)) → aGet al k' = some (.pointer (some ⟨g, 0, none⟩)) → k = k'

structure OwnAt (w : World) (p m : Nat) (n : Nat) (f : Int → Int) (G : Nat → Prop) : Prop where
  pm : p ≠ m
  gp : G p
  gm : G m
  glt : ∀ k, G k → k < w.heap.size
  nle : n ≤ 1024
  out : ∀ i : Int, ¬ (0 ≤ i ∧ i < n) → f i = 0
  head : w.heap[p]? = some (.cells #[.map (some m), .int .i64 n] 101)
  al : ∃ al, GroupsAt w p m f G al

theorem GroupsAt.ch {w w' : World} {p m : Nat} {f : Int → Int} {G : Nat → Prop} {al : AL} (h : GroupsAt w p m f G al) {F : Nat → Prop} (hc : Ch F w w') (hF : ∀ k, G k → ¬ F k) (hm : G m) : GroupsAt w' p m f G al :=
  ⟨h.map.ch hc (hF _ hm), h.no, fun k v hk => by
    obtain ⟨g, c, e, h1, h2, h3, h4, h5⟩ := h.yes k v hk
    exact ⟨g, c, e, h1, h2, h3, hc.heap h4 (hF _ h3), h5⟩, h.inj⟩
theorem OwnAt.ch {w w' : World} {p m n : Nat} {f : Int → Int} {G : Nat → Prop} (h : OwnAt w p m n f G) {F : Nat → Prop} (hc : Ch F w w') (hF : ∀ k, G k → ¬ F k) : OwnAt w' p m n f G := by
  obtain ⟨al, ha⟩ := h.al
  exact ⟨h.pm, h.gp, h.gm, fun k hk => Nat.lt_of_lt_of_le (h.glt k hk) hc.size, h.nle, h.out, hc.heap h.head (hF _ h.gp), al, ha.ch hc hF h.gm⟩
theorem OwnAt.ch0 {w w' : World} {p m n : Nat} {f : Int → Int} {G : Nat → Prop} (h : OwnAt w p m n f G) (hc : Ch No w w') : OwnAt w' p m n f G := h.ch hc (fun _ _ q => q)

theorem infoGroupPtr : (Try.prog.info? 102).map (·.zero) = some (some (.pointer none)) := by kernel_rfl

theorem owner_Page (w : World) (p m n : Nat) (f : Int → Int) (G : Nat → Prop) (i : Int) (h : OwnAt w p m n f G) (hi : I64 i) :
    Calls Try.prog 34 #[.pointer (some ⟨p, 0, none⟩), .int .i64 i] w fun e w' => e = .returned (.int .i64 (f i)) ∧ w = w' := by
  have c0 := cellOf h.head 0 rfl
  have c1 := cellOf h.head 1 rfl
  have hi' := hi.bd
  have hn := h.nle
  by_cases h0 : i < 0
  · have ho := h.out i (by omega)
    rw [ho]
    go_enter Try.func34, Try.ntmps34
    go_wp2_with fail
    go_ret
    exact ⟨rfl, rfl⟩
  · by_cases h1 : (n : Int) ≤ i
    · have ho := h.out i (by omega)
      rw [ho]
      go_enter Try.func34, Try.ntmps34
      go_wp2_with fail
      go_ret
      exact ⟨rfl, rfl⟩
    · obtain ⟨al, ha⟩ := h.al
      have hl := run_lookup1 (P := Try.prog) (t := 99) Try.underlying99 (by kernel_rfl) infoGroupPtr ha.map (i / 32)
      cases hg : aGet al (i / 32) with
      | none =>
        rw [hg] at hl
        have hz := ha.no _ hg (i % 32) (by omega) (by omega)
        rw [show 32 * (i / 32) + i % 32 = i by omega] at hz
        rw [hz]
        clear h ha hz hg
        simp only [Option.getD_none] at hl
        go_enter Try.func34, Try.ntmps34
        go_wp2_with fail
        go_ret
        exact ⟨rfl, rfl⟩
      | some v =>
        rw [hg] at hl
        obtain ⟨g, c, rfl, _, _, _, h4, h5, h6⟩ := ha.yes _ _ hg
        have c2 := h6 (i % 32).toNat (by omega)
        rw [show (32 * (i / 32) + ((i % 32).toNat : Int)) = i by omega] at c2
        have c3 := cellOf h4 _ c2
        clear h ha hg h6 c2
        simp only [Option.getD_some] at hl
        have hm1 : 0 ≤ i % 32 ∧ i % 32 < 32 := by omega
        go_enter Try.func34, Try.ntmps34
        go_wp2_with fail
        go_ret
        exact ⟨rfl, rfl⟩

theorem owner_Word (w : World) (p m n : Nat) (f : Int → Int) (G : Nat → Prop) (i : Int) (h : OwnAt w p m n f G) (hi : I64 i) :
    Calls Try.prog 35 #[.pointer (some ⟨p, 0, none⟩), .int .i64 i] w fun e w' => e = .returned (.int .i64 (f (i / 16))) ∧ w = w' := by
  have hi' := hi.bd
  by_cases h0 : i < 0
  · have ho := h.out (i / 16) (by omega)
    rw [ho]
    go_enter Try.func35, Try.ntmps35
    go_wp2_with fail
    go_ret
    exact ⟨rfl, rfl⟩
  · have hp := owner_Page w p m n f G (i / 16) h (show _ ∧ _ from by omega)
    go_enter Try.func35, Try.ntmps35
    go_wp2_with (go_at_call 34; with_reducible refine hp.mono ?_; rintro e w' ⟨rfl, rfl⟩)
    go_ret
    exact ⟨rfl, rfl⟩

/-- How many of the first k pages are somebody's. -/
def ownedOf (f : Int → Int) : Nat → Nat
  | 0 => 0
  | k + 1 => ownedOf f k + (if 0 < f k then 1 else 0)
theorem ownedOf_le (f : Int → Int) : ∀ k, ownedOf f k ≤ k
  | 0 => Nat.le_refl _
  | k + 1 => by have := ownedOf_le f k; simp only [ownedOf]; split <;> omega

theorem owner_Owned (w : World) (p m n : Nat) (f : Int → Int) (G : Nat → Prop) (h : OwnAt w p m n f G) :
    Calls Try.prog 37 #[.pointer (some ⟨p, 0, none⟩)] w fun e w' => e = .returned (.int .i64 (ownedOf f n)) ∧ w = w' := by
  have c1 := cellOf h.head 1 rfl
  have hn := h.nle
  go_enter Try.func37, Try.ntmps37
  go_wp2_with fail
  go_loopw [3, 9] (fun c i wr => ∃ k : Nat, k ≤ n ∧ i = .int .i64 k ∧ c = .int .i64 (ownedOf f k) ∧ w = wr) (fun _ i _ => n - (intOf i).toNat)
  case atStart => exact ⟨0, by omega, rfl, rfl, rfl⟩
  case round =>
    obtain ⟨k, hk, rfl, rfl, rfl⟩ := hrel
    by_cases hlt : k < n
    · have hp := owner_Page w p m n f G (k : Int) h (show _ ∧ _ from by omega)
      have hle := ownedOf_le f k
      obtain ⟨c, hc⟩ : ∃ c, c = ownedOf f k := ⟨_, rfl⟩
      rw [← hc] at hle ⊢
      have HC := Lib.hid hc; clear hc h
      by_cases hf : 0 < f k
      · have hf' : f k > 0 := hf
        go_wp2_with (go_at_call 34; with_reducible refine hp.mono ?_; rintro e w' ⟨rfl, rfl⟩)
        go_roundw
        case rel => exact ⟨k + 1, by omega, by go_num, by rw [ownedOf, if_pos hf', HC.out]; go_num, trivial⟩
        case measure => exact meas_lt (by omega)
      · go_wp2_with (go_at_call 34; with_reducible refine hp.mono ?_; rintro e w' ⟨rfl, rfl⟩)
        go_roundw
        case rel => exact ⟨k + 1, by omega, by go_num, by rw [ownedOf, if_neg (by omega), HC.out]; rfl, trivial⟩
        case measure => exact meas_lt (by omega)
    · obtain rfl : k = n := by omega
      go_wp2_with fail
      go_ret
      exact ⟨rfl, rfl⟩

theorem owner_New (n : Int) (w : World) (hi : I64 n) (G0 : Nat → Prop) :
    Calls Try.prog 30 #[.int .i64 n] w fun e w' => ∃ p m, e = .returned (.pointer (some ⟨p, 0, none⟩)) ∧ OwnAt w' p m (min (max n 0) 1024).toNat (fun _ => 0) (Two p m) ∧ Ch No w w' ∧ w.heap.size ≤ p ∧ w.heap.size ≤ m := by
  have hi' := hi.bd
  go_enter Try.func30, Try.ntmps30
  go_wp2_with fail
  go_ret
  have e : ((min (max n 0) 1024).toNat : Int) = min (max n 0) 1024 := by omega
  refine ⟨w.heap.size + 1, w.heap.size, rfl, ⟨by omega, .inl rfl, .inr rfl, ?_, by omega, fun _ _ => rfl, ?_, [], ⟨?_, ?_, ?_, ?_⟩⟩, ((Ch.refl _ _).alloc _).alloc _, by omega, by omega⟩
  · rintro k (rfl | rfl) <;> simp <;> omega
  · rw [e]; simpa using heap_alloc2_new w _ _
  · exact (MapAt.new w).ch0 ((Ch.refl _ _).alloc _)
  · intro k _ j _ _; rfl
  · intro k v hk; simp [aGet] at hk
  · intro k k' g hk; simp [aGet] at hk

/-- The pages from a on, behind b, are o's. -/
def setF (f : Int → Int) (a b o : Int) : Int → Int := fun i => if a ≤ i ∧ i < b then o else f i
theorem setF_none (f : Int → Int) (a o : Int) : setF f a a o = f := by funext q; simp only [setF]; rw [if_neg (by omega)]
theorem setF_succ (f : Int → Int) (a b o : Int) (h : a ≤ b) : setF f a (b + 1) o = fun q => if q = b then o else setF f a b o q := by
  funext q
  simp only [setF]
  by_cases hq : q = b
  · rw [if_pos hq, if_pos (by omega)]
  · rw [if_neg hq]
    by_cases h1 : a ≤ q ∧ q < b
    · rw [if_pos h1, if_pos (by omega)]
    · rw [if_neg h1, if_neg (by omega)]

theorem OwnAt.store {w : World} {p m n : Nat} {f : Int → Int} {G : Nat → Prop} (h : OwnAt w p m n f G) {al : AL} (ha : GroupsAt w p m f G al) {i o : Int} {g : Nat} (hg : aGet al (i / 32) = some (.pointer (some ⟨g, 0, none⟩))) (h0 : 0 ≤ i) (h1 : i < n) :
    OwnAt (w.setCell ⟨g, (i % 32).toNat, none⟩ (.int .i64 o)) p m n (fun q => if q = i then o else f q) G := by
  obtain ⟨g', c, e, hp, hm, hG, hh, hsz, hc⟩ := ha.yes _ _ hg
  cases e
  have hch : Ch (One g) w (w.setCell ⟨g, (i % 32).toNat, none⟩ (.int .i64 o)) := (Ch.refl (One g) w).setIn (show One g g from rfl) _
  refine ⟨h.pm, h.gp, h.gm, fun k hk => Nat.lt_of_lt_of_le (h.glt k hk) hch.size, h.nle, fun q hq => ?_, hch.heap h.head (fun e => hp e.symm), al, ha.map.ch hch (fun e => hm e.symm), ?_, ?_, ha.inj⟩
  · show (if q = i then o else f q) = 0
    rw [if_neg (by omega)]; exact h.out q hq
  · intro k hk j hj0 hj1
    show (if 32 * k + j = i then o else f (32 * k + j)) = 0
    have : k ≠ i / 32 := by rintro rfl; rw [hg] at hk; cases hk
    rw [if_neg (by omega)]
    exact ha.no k hk j hj0 hj1
  · intro k v hk
    obtain ⟨g2, c2, e2, k1, k2, k3, k4, k5, k6⟩ := ha.yes k v hk
    subst e2
    by_cases hkk : g2 = g
    · subst hkk
      obtain rfl := ha.inj _ _ _ hk hg
      rw [hh] at k4
      cases k4
      refine ⟨g2, _, rfl, k1, k2, k3, heap_set hh _, by simpa using hsz, fun j hj => ?_⟩
      show _ = some (Value.int .i64 (if 32 * (i / 32) + (j : Int) = i then o else f (32 * (i / 32) + j)))
      by_cases hj2 : j = (i % 32).toNat
      · rw [if_pos (by omega), hj2]
        rw [Array.getElem?_setIfInBounds_self_of_lt (by omega)]
      · rw [if_neg (by omega), Array.getElem?_setIfInBounds_ne (fun e => hj2 e.symm)]
        exact hc j hj
    · refine ⟨g2, c2, rfl, k1, k2, k3, hch.heap k4 hkk, k5, fun j hj => ?_⟩
      show _ = some (Value.int .i64 (if 32 * k + (j : Int) = i then o else f (32 * k + j)))
      have : k ≠ i / 32 := by rintro rfl; rw [hg] at hk; cases hk; exact hkk rfl
      rw [if_neg (by omega)]
      exact k6 j hj

theorem made_get (k : IntKind) (n j : Nat) (h : j < n) : (madeCells #[.int k 0] n)[j]? = some (.int k 0) := by
  rw [ints_made, ints_get _ _ _ (by simpa using h)]; simp
theorem made_size (k : IntKind) (n : Nat) : (madeCells #[.int k 0] n).size = n := by rw [ints_made]; simp [ints]

theorem OwnAt.group {w w' : World} {p m n : Nat} {f : Int → Int} {G : Nat → Prop} (h : OwnAt w p m n f G) {al : AL} (ha : GroupsAt w p m f G al) {k : Int} (hg : aGet al k = none)
    (hm : MapAt w' m (aSet al k (.pointer (some ⟨w.heap.size, 0, none⟩)))) (hc : Ch (One m) (w.alloc (.cells (madeCells #[.int .i64 0] 32) 104)) w') :
    OwnAt w' p m n f (fun q => G q ∨ q = w.heap.size) ∧ GroupsAt w' p m f (fun q => G q ∨ q = w.heap.size) (aSet al k (.pointer (some ⟨w.heap.size, 0, none⟩))) := by
  have hal : Ch (One m) w w' := ((Ch.refl _ _).alloc _).trans hc
  have hsz := hc.size
  simp only [World.size_alloc] at hsz
  have hpl := h.glt _ h.gp
  have hml := h.glt _ h.gm
  have hnew : w'.heap[w.heap.size]? = some (.cells (madeCells #[.int .i64 0] 32) 104) := hc.heap (heap_alloc_new w _) (fun e => by have : w.heap.size = m := e; omega)
  have hG : GroupsAt w' p m f (fun q => G q ∨ q = w.heap.size) (aSet al k (.pointer (some ⟨w.heap.size, 0, none⟩))) := by
    refine ⟨hm, ?_, ?_, ?_⟩
    · intro k2 hk2 j hj0 hj1
      rw [aGet_set] at hk2
      by_cases e : k2 = k
      · rw [if_pos e] at hk2; cases hk2
      · rw [if_neg e] at hk2; exact ha.no k2 hk2 j hj0 hj1
    · intro k2 v hk2
      rw [aGet_set] at hk2
      by_cases e : k2 = k
      · rw [if_pos e] at hk2
        cases hk2
        subst e
        refine ⟨w.heap.size, _, rfl, by omega, by omega, .inr rfl, hnew, made_size _ _, fun j hj => ?_⟩
        rw [ha.no k2 hg j (by omega) (by omega)]
        exact made_get _ _ _ hj
      · rw [if_neg e] at hk2
        obtain ⟨g2, c2, e2, k1, k2', k3, k4, k5, k6⟩ := ha.yes k2 v hk2
        exact ⟨g2, c2, e2, k1, k2', .inl k3, hal.heap k4 k2', k5, k6⟩
    · intro a b g ha1 hb1
      rw [aGet_set] at ha1 hb1
      by_cases e : a = k
      · by_cases e' : b = k
        · rw [e, e']
        · rw [if_pos e] at ha1
          rw [if_neg e'] at hb1
          cases ha1
          obtain ⟨g2, c2, e2, k1, k2', k3, k4, k5, k6⟩ := ha.yes _ _ hb1
          cases e2
          have := h.glt _ k3
          omega
      · by_cases e' : b = k
        · rw [if_neg e] at ha1
          rw [if_pos e'] at hb1
          cases hb1
          obtain ⟨g2, c2, e2, k1, k2', k3, k4, k5, k6⟩ := ha.yes _ _ ha1
          cases e2
          have := h.glt _ k3
          omega
        · rw [if_neg e] at ha1
          rw [if_neg e'] at hb1
          exact ha.inj _ _ _ ha1 hb1
  refine ⟨⟨h.pm, .inl h.gp, .inl h.gm, ?_, h.nle, h.out, hal.heap h.head h.pm, _, hG⟩, hG⟩
  rintro q (hq | rfl)
  · exact Nat.lt_of_lt_of_le (h.glt q hq) hal.size
  · omega

end Go.Proofs.Ytlmaflhfedbmdaa

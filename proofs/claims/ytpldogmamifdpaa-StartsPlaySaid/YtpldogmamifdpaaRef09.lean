/- The document's answer for layer 9 (a rising list of places), and layer 4's Same: New, Is, Before, In. -/
import Derived.Test.YtpldogmamifdpaaStarts4
set_option linter.unusedVariables false
set_option linter.unusedSimpArgs false
namespace Go.Proofs.Ytpldogmamifdpaa
open Go Go.RowKit

theorem results_cell1 {fn : Func} {c : Tmp} {T : TypeId} (h : fn.results = #[.cell c T]) (tmps : Array Value) (P : Program) (w : World) {a : Addr} {v : Value} (hc : tmps.getD c undef = .pointer (some a)) (hl : (loadVar T a).run P w = .ok v w) :
    (results fn tmps).run P w = .ok v w := by
  have hc' : tmps[c]?.getD undef = .pointer (some a) := by rw [← Array.getD_eq_getD_getElem?]; exact hc
  simp [results, h, hc', asAddr, hl]
theorem results_cell2 {fn : Func} {c u : Tmp} {T : TypeId} (h : fn.results = #[.cell c T, .tmp u]) (tmps : Array Value) (P : Program) (w : World) {a : Addr} {v : Value} (hc : tmps.getD c undef = .pointer (some a)) (hl : (loadVar T a).run P w = .ok v w) :
    (results fn tmps).run P w = .ok (.tuple #[v, tmps.getD u undef]) w := by
  have hc' : tmps[c]?.getD undef = .pointer (some a) := by rw [← Array.getD_eq_getD_getElem?]; exact hc
  simp [results, h, hc', asAddr, hl]

/-- Places within 16384, as a slice of ints. -/
abbrev Is9 (F : Nat → Prop) (w : World) (a : Option Addr) (c : Nat) (l : List Int) : Prop := SlR (intRp .i64) F w a c l
def stV (a : Option Addr) (n c : Nat) (W : Int) : Value := .agg #[.slice a n c, .int .i64 W]
def stCells (a : Option Addr) (n c : Nat) (W : Int) : Obj := .cells #[.slice a n c, .int .i64 W] 63

theorem ref09_New (w : World) (n : Int) (hn : I64 n) :
    Calls Try.prog 33 #[.int .i64 n] w fun e w' => e = .returned (stV none 0 0 (capW n)) ∧ Ch No w w' := by
  have hn' := hn.bd
  have k0 : (w.alloc (.cells #[.slice none 0 0, .int .i64 0] 63)).heap[w.heap.size]? = some (.cells #[.slice none 0 0, .int .i64 0] 63 (0, 0)) := World.alloc_heap_new _ _
  have m : ∀ N : Int, _ := fun N => heap_set (heap_set (i := 0) k0 (.slice none 0 0)) (i := 1) (.int .i64 N)
  unfold stV
  by_cases h0 : n < 0
  · have b1 : decide (n < 0) = true := decide_eq_true h0
    have b2 : decide ((0 : Int) > 16384) = false := by decide
    rw [show (capW n : Int) = 0 by unfold capW; omega]
    go_enter Try.func33, Try.ntmps33
    go_wp2_with fail
    have e0 := cellOf (m 0) 0 rfl
    have e1 := cellOf (m 0) 1 rfl
    refine bodyPost_ret (results_cell1 (v := .agg #[.slice none 0 0, .int .i64 0]) rfl _ _ _ (by rfl) (by go_simp)) rfl ?_
    exact ⟨rfl, (Ch.refl _ _).alloc _⟩
  · have b1 : decide (n < 0) = false := decide_eq_false h0
    by_cases h2 : 16384 < n
    · have b2 : decide (n > 16384) = true := decide_eq_true h2
      rw [show (capW n : Int) = 16384 by unfold capW; omega]
      have H2 := Lib.hid h2; clear h2
      go_enter Try.func33, Try.ntmps33
      go_wp2_with fail
      have e0 := cellOf (m 16384) 0 rfl
      have e1 := cellOf (m 16384) 1 rfl
      refine bodyPost_ret (results_cell1 (v := .agg #[.slice none 0 0, .int .i64 16384]) rfl _ _ _ (by rfl) (by go_simp)) rfl ?_
      exact ⟨rfl, (Ch.refl _ _).alloc _⟩
    · have b2 : decide (n > 16384) = false := decide_eq_false h2
      rw [show (capW n : Int) = n by unfold capW; omega]
      have H2 := Lib.hid h2; clear h2
      go_enter Try.func33, Try.ntmps33
      go_wp2_with fail
      have e0 := cellOf (m n) 0 rfl
      have e1 := cellOf (m n) 1 rfl
      refine bodyPost_ret (results_cell1 (v := .agg #[.slice none 0 0, .int .i64 n]) rfl _ _ _ (by rfl) (by go_simp)) rfl ?_
      exact ⟨rfl, (Ch.refl _ _).alloc _⟩

set_option maxRecDepth 100000 in
theorem ref09_Is (F : Nat → Prop) (w : World) (a : Option Addr) (c : Nat) (l : List Int) (W i : Int) (h : Is9 F w a c l) (hl : l.length ≤ 100000) :
    Calls Try.prog 40 #[stV a l.length c W, .int .i64 i] w fun e w' => e = .returned (.bool (decide (i ∈ l))) ∧ Ch No w w' := by
  unfold stV
  have hal : Ch No w (w.alloc (stCells a l.length c W)) := (Ch.refl _ _).alloc _
  have h1 := h.ch0 hal
  have c0 : (w.alloc (stCells a l.length c W)).cell? ⟨w.heap.size, 0, none⟩ = some (.slice a l.length c) := cellOf (World.alloc_heap_new _ _) 0 rfl
  unfold stCells at c0 h1 hal
  go_enter Try.func40, Try.ntmps40
  go_wp2_with fail
  obtain ⟨w1, hw1⟩ : ∃ z, z = w.alloc (.cells #[.slice a l.length c, .int .i64 W] 63) := ⟨_, rfl⟩
  rw [← hw1] at c0 h1 hal ⊢
  have H1 := Lib.hid hw1; clear hw1 h
  go_loopw [5] (fun v wr => wr = w1 ∧ ∃ k : Nat, k ≤ l.length ∧ v = .int .i64 k ∧ ∀ j, ∀ hj : j < l.length, j < k → l[j] ≠ i) (fun v _ => l.length - (intOf v).toNat)
  case atStart => exact ⟨rfl, 0, by omega, rfl, fun j _ h => by omega⟩
  case round =>
    obtain ⟨rfl, k, hk, rfl, hq⟩ := hrel
    by_cases hlt : k < l.length
    · obtain ⟨b, off, rfl, _, _, c1, _⟩ := h1.int_at k hlt
      obtain ⟨x, hx⟩ : ∃ x, x = l[k] := ⟨_, rfl⟩
      rw [← hx] at c1
      by_cases he : x = i
      · have e1 : (x == i) = true := by simp [he]
        have HE := Lib.hid he; have HX := Lib.hid hx; clear he hx
        go_wp2_with fail
        go_ret
        exact ⟨by rw [decide_eq_true (List.mem_iff_getElem.2 ⟨k, hlt, by rw [← HX.out]; exact HE.out⟩)]; rfl, hal⟩
      · have e1 : (x == i) = false := by simp [he]
        have HE := Lib.hid he; have HX := Lib.hid hx; clear he hx
        go_wp2_with fail
        go_roundw
        case rel => exact ⟨trivial, k + 1, by omega, by go_num, fun j hj hjk => by
          by_cases hjk2 : j = k
          · subst hjk2; rw [← HX.out]; exact HE.out
          · exact hq j hj (by omega)⟩
        case measure => exact meas_lt (by omega)
    · obtain rfl : k = l.length := by omega
      go_wp2_with fail
      go_ret
      exact ⟨by rw [decide_eq_false (fun hm => by obtain ⟨j, hj, e⟩ := List.mem_iff_getElem.1 hm; exact hq j hj hj e)]; rfl, hal⟩

/-- The last one of a list's first k that isn't behind a place; 0. -/
def lastLe (l : List Int) (i : Int) : Nat → Int
  | 0 => 0
  | k + 1 => if l.getD k 0 ≤ i ∧ k < l.length then l.getD k 0 else lastLe l i k

set_option maxRecDepth 100000 in
theorem ref09_Before (F : Nat → Prop) (w : World) (a : Option Addr) (c : Nat) (l : List Int) (W i : Int) (h : Is9 F w a c l) (hl : l.length ≤ 100000) :
    Calls Try.prog 37 #[stV a l.length c W, .int .i64 i] w fun e w' => e = .returned (.tuple #[.int .i64 (lastLe l i l.length), .bool (decide (lastLe l i l.length > 0))]) ∧ Ch No w w' := by
  unfold stV
  have hal : Ch No w (w.alloc (stCells a l.length c W)) := (Ch.refl _ _).alloc _
  have h1 := h.ch0 hal
  have c0 : (w.alloc (stCells a l.length c W)).cell? ⟨w.heap.size, 0, none⟩ = some (.slice a l.length c) := cellOf (World.alloc_heap_new _ _) 0 rfl
  unfold stCells at c0 h1 hal
  obtain ⟨R, hR⟩ : ∃ z, z = lastLe l i l.length := ⟨_, rfl⟩
  rw [← hR]
  have HR := Lib.hid hR; clear hR
  go_enter Try.func37, Try.ntmps37
  go_wp2_with fail
  obtain ⟨w1, hw1⟩ : ∃ z, z = w.alloc (.cells #[.slice a l.length c, .int .i64 W] 63) := ⟨_, rfl⟩
  rw [← hw1] at c0 h1 hal ⊢
  have H1 := Lib.hid hw1; clear hw1 h
  go_loopw [6, 7] (fun best v wr => wr = w1 ∧ ∃ (k : Nat) (q : Int), k ≤ l.length ∧ v = .int .i64 k ∧ best = .int .i64 q ∧ q = lastLe l i k) (fun _ v _ => l.length - (intOf v).toNat)
  case atStart => exact ⟨rfl, 0, 0, by omega, rfl, rfl, rfl⟩
  case round =>
    obtain ⟨rfl, k, q, hk, rfl, rfl, hq⟩ := hrel
    have HQ := Lib.hid hq; clear hq
    by_cases hlt : k < l.length
    · obtain ⟨b, off, rfl, _, _, c1, _⟩ := h1.int_at k hlt
      obtain ⟨x, hx⟩ : ∃ x, x = l[k] := ⟨_, rfl⟩
      rw [← hx] at c1
      have hgd : l.getD k 0 = x := by rw [hx]; simp [List.getD_eq_getElem?_getD, hlt]
      have HG := Lib.hid hgd
      by_cases he : x ≤ i
      · have e1 : decide (x ≤ i) = true := decide_eq_true he
        have HE := Lib.hid he; have HX := Lib.hid hx; clear he hx hgd
        go_wp2_with fail
        go_roundw
        case rel => exact ⟨trivial, k + 1, x, by omega, by go_num, rfl, by rw [lastLe, HG.out, if_pos ⟨HE.out, hlt⟩]⟩
        case measure => exact meas_lt (by omega)
      · have e1 : decide (x ≤ i) = false := decide_eq_false he
        have HE := Lib.hid he; have HX := Lib.hid hx; clear he hx hgd
        go_wp2_with fail
        go_roundw
        case rel => exact ⟨trivial, k + 1, q, by omega, by go_num, rfl, by rw [lastLe, HG.out, if_neg (fun h => HE.out h.1)]; exact HQ.out⟩
        case measure => exact meas_lt (by omega)
    · obtain rfl : k = l.length := by omega
      go_wp2_with fail
      go_ret2
      exact ⟨by rw [HR.out]; first | rfl | (rw [HQ.out]; rfl), hal⟩

set_option maxRecDepth 100000 in
theorem ref04_Same (F G : Nat → Prop) (w : World) (a a' : Option Addr) (c c' : Nat) (l l' : List Int) (h : Is9 F w a c l) (h' : Is9 G w a' c' l') (hl : l.length ≤ 100000) (hl' : l'.length ≤ 100000) :
    Calls Try.prog 38 #[.slice a l.length c, .slice a' l'.length c'] w fun e w' => e = .returned (.bool (decide (l = l'))) ∧ Ch No w w' := by
  by_cases hn : l.length = l'.length
  · have hn' : ((l.length : Int) != (l'.length : Int)) = false := by simp; omega
    have HN := Lib.hid hn; clear hn
    go_enter Try.func38, Try.ntmps38
    go_wp2_with fail
    go_loopw [5] (fun i wr => ∃ k : Nat, k ≤ l.length ∧ i = .int .i64 k ∧ l.take k = l'.take k ∧ Ch No w wr) (fun i _ => l.length - (intOf i).toNat)
    case atStart => exact ⟨0, by omega, rfl, rfl, Ch.refl _ _⟩
    case round =>
      obtain ⟨k, hk, rfl, ht, hc⟩ := hrel
      have HT := Lib.hid ht; clear ht
      by_cases hlt : k < l.length
      · obtain ⟨b, off, rfl, _, _, c1, _⟩ := (h.ch0 hc).int_at k hlt
        obtain ⟨b', off', rfl, _, _, c3, _⟩ := (h'.ch0 hc).int_at k (by have := HN.out; omega)
        obtain ⟨x, hx⟩ : ∃ x, x = l[k] := ⟨_, rfl⟩
        obtain ⟨y, hy⟩ : ∃ y, y = l'[k]'(by have := HN.out; omega) := ⟨_, rfl⟩
        rw [← hx] at c1
        rw [← hy] at c3
        have HX := Lib.hid hx; have HY := Lib.hid hy; clear hx hy
        have hk2 : (k : Int) < (l'.length : Int) := by have := HN.out; omega
        by_cases he : x = y
        · have e1 : (x != y) = false := by simp [he]
          have HE := Lib.hid he; clear he
          go_wp2_with fail
          go_quiet (fail)
          go_wp2_with fail
          go_roundw
          case rel => exact ⟨k + 1, by omega, by go_num, take_eq_succ HT.out hlt (by have := HN.out; omega) (by rw [← HX.out, ← HY.out, HE.out]), hc.drewN _⟩
          case measure => simp [intOf]; omega
        · have e1 : (x != y) = true := by simp [he]
          have HE := Lib.hid he; clear he
          go_wp2_with fail
          go_quiet (fail)
          go_wp2_with fail
          go_ret
          have : l ≠ l' := take_ne_of hlt (by have := HN.out; omega) (by rw [← HX.out, ← HY.out]; exact HE.out)
          exact ⟨by simp [this], hc.drewN _⟩
      · obtain rfl : k = l.length := by omega
        go_wp2_with fail
        go_ret
        have e : l = l' := by have := HT.out; rw [List.take_length, HN.out, List.take_length] at this; exact this
        exact ⟨by simp [e], hc⟩
  · have hn' : ((l.length : Int) != (l'.length : Int)) = true := by simp; omega
    have HN := Lib.hid hn; clear hn
    go_enter Try.func38, Try.ntmps38
    go_wp2_with fail
    go_ret
    have : l ≠ l' := fun e => HN.out (by rw [e])
    exact ⟨by simp [this], Ch.refl _ _⟩
end Go.Proofs.Ytpldogmamifdpaa

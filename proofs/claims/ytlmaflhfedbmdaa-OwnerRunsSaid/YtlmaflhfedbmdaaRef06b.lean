/- The document's answer for layer 6: Set. -/
import Derived.Test.YtlmaflhfedbmdaaOwnSet2
import Derived.Test.YtlmaflhfedbmdaaRef06
set_option linter.unusedVariables false
set_option linter.unusedSimpArgs false
namespace Go.Proofs.Ytlmaflhfedbmdaa
open Go Go.RowKit

theorem ref06_Set_arg (w : World) (v : Value) (x y o : Int) (h0 : o < 0) :
    Calls Try.prog 33 #[v, .agg #[.int .i64 x, .int .i64 y], .int .i64 o] w fun e w' => e = .returned (.tuple #[v, .int .i64 1]) ∧ Ch No w w' := by
  go_enter Try.func33, Try.ntmps33
  go_wp2_with fail
  go_ret2
  exact ⟨rfl, (Ch.refl _ _).alloc _⟩

set_option maxRecDepth 100000 in
set_option maxHeartbeats 2000000 in
theorem ref06_Set_no (w : World) (a : Option Addr) (c n : Nat) (x y o : Int) (hx : I64 x) (hy : I64 y) (h0 : 0 ≤ o) (hf : ¬ fits n x y) (hn : n ≤ 100000) :
    Calls Try.prog 33 #[.slice a n c, .agg #[.int .i64 x, .int .i64 y], .int .i64 o] w fun e w' => e = .returned (.tuple #[.slice a n c, .int .i64 8]) ∧ Ch No w w' := by
  have hx' := hx.bd
  have hy' := hy.bd
  by_cases hx0 : x < 0
  · have b1 : decide (x < 0) = true := by simp; omega
    go_enter Try.func33, Try.ntmps33
    go_wp2_with fail
    go_ret2
    exact ⟨rfl, (Ch.refl _ _).alloc _⟩
  · have b1 : decide (x < 0) = false := by simp; omega
    by_cases hy0 : y < 0
    · have b2 : decide (y < 0) = true := by simp; omega
      go_enter Try.func33, Try.ntmps33
      go_wp2_with fail
      go_ret2
      exact ⟨rfl, (Ch.refl _ _).alloc _⟩
    · have b2 : decide (y < 0) = false := by simp; omega
      by_cases hxn : (n : Int) < x
      · have b3 : decide (x > (n : Int)) = true := by simp; omega
        go_enter Try.func33, Try.ntmps33
        go_wp2_with fail
        go_ret2
        exact ⟨rfl, (Ch.refl _ _).alloc _⟩
      · have b3 : decide (x > (n : Int)) = false := by simp; omega
        by_cases hyn : (n : Int) < y
        · have b4 : decide (y > (n : Int)) = true := by simp; omega
          go_enter Try.func33, Try.ntmps33
          go_wp2_with fail
          go_ret2
          exact ⟨rfl, (Ch.refl _ _).alloc _⟩
        · have b4 : decide (y > (n : Int)) = false := by simp; omega
          have b5 : decide (x + y > (n : Int)) = true := by unfold fits at hf; simp; omega
          go_enter Try.func33, Try.ntmps33
          go_wp2_with fail
          go_ret2
          exact ⟨rfl, (Ch.refl _ _).alloc _⟩

/-- From place a on k are o. -/
def setK (l : List Int) (a : Nat) (o : Int) : Nat → List Int
  | 0 => l
  | k + 1 => (setK l a o k).set (a + k) o
theorem setK_length (l : List Int) (a : Nat) (o : Int) : ∀ k, (setK l a o k).length = l.length
  | 0 => rfl
  | k + 1 => by rw [setK, List.length_set, setK_length l a o k]
theorem pageAt_set (l : List Int) (k : Nat) (h : k < l.length) (o : Int) : pageAt (l.set k o) = fun q : Int => if q = k then o else pageAt l q := by
  funext q
  by_cases hq : 0 ≤ q
  · obtain ⟨j, rfl⟩ : ∃ j : Nat, q = j := ⟨q.toNat, by omega⟩
    simp only [pageAt, if_pos hq, Int.toNat_natCast, List.getD_eq_getElem?_getD, List.getElem?_set]
    by_cases e : k = j
    · subst e; simp [h]
    · rw [if_neg e, if_neg (by omega)]
  · simp only [pageAt, if_neg hq]; rw [if_neg (by omega)]
theorem pageAt_setK (l : List Int) (a : Nat) (o : Int) : ∀ k, a + k ≤ l.length → pageAt (setK l a o k) = setF (pageAt l) a ((a : Int) + k) o
  | 0, _ => by rw [setK]; simp [setF_none]
  | k + 1, h => by
    rw [setK, pageAt_set _ _ (by rw [setK_length]; omega), pageAt_setK l a o k (by omega), show (a : Int) + ((k + 1 : Nat) : Int) = (a : Int) + k + 1 by omega, setF_succ _ _ _ _ (by omega)]
    rfl

set_option maxRecDepth 100000 in
set_option maxHeartbeats 2000000 in
theorem ref06_Set_ok (F : Nat → Prop) (w : World) (a : Option Addr) (c : Nat) (l : List Int) (x y : Nat) (o : Int) (h : SlR (intRp .i64) F w a c l) (h0 : 0 ≤ o) (ho : I64 o) (hf : x + y ≤ l.length) (hn : l.length ≤ 100000) (hF : ∀ k, F k → k < w.heap.size) :
    Calls Try.prog 33 #[.slice a l.length c, .agg #[.int .i64 x, .int .i64 y], .int .i64 o] w fun e w' => ∃ r, e = .returned (.tuple #[r, .int .i64 0]) ∧ OwnR (intRp .i64) w.heap.size 3 F w' r (setK l x o y) ∧ Ch No w w' := by
  have b3 : decide ((x : Int) > (l.length : Int)) = false := by simp; omega
  have b4 : decide ((y : Int) > (l.length : Int)) = false := by simp; omega
  have b5 : decide ((x : Int) + (y : Int) > (l.length : Int)) = false := by simp; omega
  have hown0 : OwnR (intRp .i64) (w.heap.size + 1) 3 F ((w.alloc (.cells #[.int .i64 x, .int .i64 y] 72)).alloc (.cells #[] 3)) (.slice (some ⟨w.heap.size + 1, 0, none⟩) 0 0) [] := by
    have := OwnR.lit0 (e := intRp .i64) (base := w.heap.size + 1) (T := 3) (F := F) (w := w.alloc (.cells #[.int .i64 x, .int .i64 y] 72)) (by simp)
    simpa using this
  have hl0 : SlR (intRp .i64) (fun k => F k ∨ (Value.slice (some ⟨w.heap.size + 1, 0, none⟩) 0 0).ownBlock = some k) ((w.alloc (.cells #[.int .i64 x, .int .i64 y] 72)).alloc (.cells #[] 3)) a c l :=
    (h.beside _ (fun k hk => by have := ownBlock_lit k hk; omega)).ch0 (((Ch.refl _ _).alloc _).alloc _)
  go_enter Try.func33, Try.ntmps33
  go_wp2_with (at_builtin; go_loud (refine wpL_appendR rfl _ _ _ rfl (w.heap.size + 1) 3 (.int .i64 0) 1 8 Try.underlying69 infoI64 rfl (by decide) (intRp .i64) rfl F (.slice (some ⟨w.heap.size + 1, 0, none⟩) 0 0) [] rfl hown0 a c l rfl hl0 (by simp; omega) (by simp; omega) (by simp) ?_); intro v1 w1 ho1 hg1 _)
  have hc1 : Ch No (w.alloc (.cells #[.int .i64 x, .int .i64 y] 72)) w1 := hg1 _ _ (by simp) ((Ch.refl _ _).alloc _)
  clear hg1 hown0 hl0 h
  go_loopw [9] (fun i wr => ∃ (k : Nat) (zs : List Int), k ≤ y ∧ i = .int .i64 k ∧ zs = setK l x o k ∧ OwnR (intRp .i64) (w.heap.size + 1) 3 F wr v1 zs ∧ Ch No (w.alloc (.cells #[.int .i64 x, .int .i64 y] 72)) wr) (fun i _ => y - (intOf i).toNat)
  case atStart => exact ⟨0, _, by omega, rfl, rfl, by simpa [setK] using ho1, hc1⟩
  case round =>
    obtain ⟨k, zs, hk, rfl, hzs, hoz, hc⟩ := hrel
    have b0 : wr.cell? ⟨w.heap.size, 0, none⟩ = some (.int .i64 x) := hc.cell (by simp) (fun q => q)
    have b1 : wr.cell? ⟨w.heap.size, 1, none⟩ = some (.int .i64 y) := hc.cell (by simp) (fun q => q)
    have hzl : zs.length = l.length := by rw [hzs, setK_length]
    have HZ := Lib.hid hzs; clear hzs
    by_cases hlt : k < y
    · obtain ⟨g, cap, hv, hg1, hg2, _, hcell, hfr⟩ := hoz.int_form (by omega)
      obtain ⟨n, hn2⟩ : ∃ n, n = zs.length := ⟨_, rfl⟩
      rw [← hn2] at hv hzl
      subst hv
      have hc0 := hcell (x + k) (by omega)
      have hf0 := hfr (x + k)
      obtain ⟨z, hz⟩ : ∃ z, z = zs[x + k]'(by omega) := ⟨_, rfl⟩
      rw [← hz] at hc0
      have HN := Lib.hid hn2
      clear hn2 hz hcell hfr ho1
      go_wp2_with fail
      go_roundw
      case rel =>
        refine ⟨k + 1, zs.set (x + k) o, by omega, by go_num, ?_, hoz.int_set HN.out _ _ ho, hc.setNew (by simp; omega) _⟩
        rw [setK, ← HZ.out]
      case measure => exact meas_lt (by omega)
    · obtain rfl : k = y := by omega
      clear ho1
      go_wp2_with fail
      go_ret2
      refine ⟨_, rfl, ?_, ((Ch.refl No w).alloc _).trans hc⟩
      rw [← HZ.out]
      exact hoz.base (by omega)
end Go.Proofs.Ytlmaflhfedbmdaa

/- The document's answers for layers 1 (Same) and 16. -/
import Derived.Test.YtlmaflhfedbmdaaGlobals
set_option linter.unusedVariables false
set_option linter.unusedSimpArgs false
namespace Go.Proofs.Ytlmaflhfedbmdaa
open Go Go.RowKit

theorem ref16_New_no (F : Nat → Prop) (n : Int) (w : World) (h : n < 0 ∨ 64 < n) :
    Calls Try.prog 12 #[.int .i64 n] w fun e w' => ∃ v, e = .returned (.tuple #[v, .int .i64 1]) ∧ OwnR (intRp .u64) w.heap.size 23 F w' v [] ∧ Ch No w w' := by
  have hb : decide (n < 0) = true ∨ (decide (n < 0) = false ∧ decide (n > 64) = true) := by
    by_cases h0 : n < 0
    · left; simpa using h0
    · right; exact ⟨by simpa using h0, by simp; omega⟩
  rcases hb with hb | ⟨hb, hb'⟩
  all_goals
    go_enter Try.func12, Try.ntmps12
    go_wp2
    go_ret2
    exact ⟨_, rfl, OwnR.lit0 (Nat.le_refl _), (Ch.refl _ _).alloc _⟩

theorem ref16_New_ok (F : Nat → Prop) (n : Int) (w : World) (h0 : 0 ≤ n) (h : n ≤ 64) (hF : ∀ k, F k → k < w.heap.size) :
    Calls Try.prog 12 #[.int .i64 n] w fun e w' => ∃ v, e = .returned (.tuple #[v, .int .i64 0]) ∧ OwnR (intRp .u64) w.heap.size 23 F w' v (List.replicate n.toNat 0) ∧ Ch No w w' := by
  go_enter Try.func12, Try.ntmps12
  go_wp2
  go_loopw [4, 5] (fun v i wr => ∃ k : Nat, k ≤ n.toNat ∧ i = .int .i64 k ∧ OwnR (intRp .u64) w.heap.size 23 F wr v (List.replicate k 0) ∧ Ch No w wr) (fun _ i _ => n.toNat - (intOf i).toNat)
  case atStart => exact ⟨0, by omega, rfl, OwnR.lit0 (Nat.le_refl _), (Ch.refl _ _).alloc _⟩
  case round =>
    obtain ⟨k, hk, rfl, ho, hc⟩ := hrel
    by_cases hlt : (k : Int) < n
    · have hs := hc.size
      go_wp2_with (at_builtin; refine wpL_push rfl _ _ _ rfl w.heap.size 23 (.int .u64 0) 1 8 Try.underlying29 infoU64 rfl (by decide) (intRp .u64) rfl F u4 _ rfl ho [.int .u64 0] _ 0 1 rfl ⟨rfl, by simp [InK]⟩ hF (by simp; omega) (by simp; omega) hs ?_; intro v' w' ho' hg)
      go_roundw
      case rel => exact ⟨k + 1, by omega, by go_num, by rw [List.replicate_succ']; exact ho', hg _ _ (Nat.le_refl _) hc⟩
      case measure => simp [intOf]; omega
    · obtain rfl : k = n.toNat := by omega
      go_wp2
      go_ret2
      exact ⟨_, rfl, ho, hc⟩

theorem ref16_Get_ok (F : Nat → Prop) (w : World) (a : Option Addr) (c : Nat) (l : List Int) (i : Int) (h : SlR (intRp .u64) F w a c l) (h0 : 0 ≤ i) (hi : i < l.length) (hl : l.length ≤ 100000) :
    Calls Try.prog 19 #[.slice a l.length c, .int .u64 i] w fun e w' => e = .returned (.tuple #[.int .u64 (slotAt l i), .int .i64 0]) ∧ w = w' := by
  obtain ⟨b, off, rfl, _, _, c1, _⟩ := h.int_at i.toNat (by omega)
  have hv : l[i.toNat]'(by omega) = slotAt l i := by simp [slotAt, List.getD_eq_getElem?_getD, show i.toNat < l.length by omega]
  rw [hv] at c1
  clear hv h
  go_enter Try.func19, Try.ntmps19
  go_wp2
  go_ret2
  exact ⟨rfl, rfl⟩

theorem ref16_Get_no (w : World) (a : Option Addr) (c n : Nat) (i : Int) (hi : (n : Int) ≤ i) (hl : n ≤ 100000) :
    Calls Try.prog 19 #[.slice a n c, .int .u64 i] w fun e w' => e = .returned (.tuple #[.int .u64 0, .int .i64 8]) ∧ w = w' := by
  go_enter Try.func19, Try.ntmps19
  go_wp2
  go_ret2
  exact ⟨rfl, rfl⟩

theorem ref16_Set_no (F : Nat → Prop) (w : World) (a : Option Addr) (c : Nat) (l : List Int) (i v : Int) (h : SlR (intRp .u64) F w a c l) (hi : (l.length : Int) ≤ i) (hl : l.length ≤ 100000) :
    Calls Try.prog 14 #[.slice a l.length c, .int .u64 i, .int .u64 v] w fun e w' => e = .returned (.tuple #[.slice a l.length c, .int .u64 0, .int .i64 8]) ∧ w = w' := by
  go_enter Try.func14, Try.ntmps14
  go_wp2_with (go_at_call 19; refine (ref16_Get_no _ _ _ _ _ hi hl).mono ?_; rintro e w' ⟨rfl, rfl⟩)
  refine bodyPost_ret (results_tmp3 rfl _ _ _) rfl ?_
  exact ⟨rfl, rfl⟩

theorem ref16_Set_ok (F : Nat → Prop) (w : World) (a : Option Addr) (c : Nat) (l : List Int) (i v : Int) (h : SlR (intRp .u64) F w a c l) (h0 : 0 ≤ i) (hi : i < l.length) (hl : l.length ≤ 100000) (hv : U64 v) (hF : ∀ k, F k → k < w.heap.size) :
    Calls Try.prog 14 #[.slice a l.length c, .int .u64 i, .int .u64 v] w fun e w' => ∃ r, e = .returned (.tuple #[r, .int .u64 (slotAt l i), .int .i64 0]) ∧ OwnR (intRp .u64) w.heap.size 23 F w' r (l.set i.toNat v) ∧ Ch No w w' := by
  go_enter Try.func14, Try.ntmps14
  go_wp2_with (first | (go_at_call 19; refine (ref16_Get_ok F _ _ _ _ _ h h0 hi hl).mono ?_; rintro e w' ⟨rfl, rfl⟩) | (at_builtin; refine wpL_appendR rfl _ _ _ rfl w.heap.size 23 (.int .u64 0) 1 8 Try.underlying29 infoU64 rfl (by decide) (intRp .u64) rfl F (.slice (some ⟨w.heap.size, 0, none⟩) 0 0) [] rfl (OwnR.lit0 (Nat.le_refl _)) a c l rfl ((h.beside _ ownBlock_lit).ch0 ((Ch.refl _ _).alloc _)) (by simp; omega) (by simp; omega) (by simp) ?_; intro r w1 ho hg; obtain ⟨g, cap, rfl, hg1, hg2, hg3, hcell, hfr⟩ := ho.int_form (by simp; omega); have hcell1 := hcell i.toNat (by simp; omega); clear hcell))
  refine bodyPost_ret (results_tmp3 rfl _ _ _) rfl ⟨_, rfl, by simpa using ho.int_set (by simp) i.toNat v hv, (hg No w (Nat.le_refl _) ((Ch.refl _ _).alloc _)).setNew hg1 _⟩

theorem ref16_Get (F : Nat → Prop) (w : World) (a : Option Addr) (c : Nat) (l : List Int) (i : Int) (h : SlR (intRp .u64) F w a c l) (h0 : 0 ≤ i) (hl : l.length ≤ 100000) :
    Calls Try.prog 19 #[.slice a l.length c, .int .u64 i] w fun e w' => e = .returned (.tuple #[.int .u64 (slotAt l i), .int .i64 (errAt l i)]) ∧ w = w' := by
  by_cases hi : i < l.length
  · rw [errAt_ok hi]; exact ref16_Get_ok F w a c l i h h0 hi hl
  · rw [errAt_no (by omega), slotAt_no (by omega)]; exact ref16_Get_no w a c _ i (by omega) hl

theorem ref16_Set (F : Nat → Prop) (w : World) (a : Option Addr) (c : Nat) (l : List Int) (i v : Int) (h : SlR (intRp .u64) F w a c l) (h0 : 0 ≤ i) (hl : l.length ≤ 100000) (hv : U64 v) (hF : ∀ k, F k → k < w.heap.size) :
    Calls Try.prog 14 #[.slice a l.length c, .int .u64 i, .int .u64 v] w fun e w' => ∃ a' c', e = .returned (.tuple #[.slice a' (l.set i.toNat v).length c', .int .u64 (slotAt l i), .int .i64 (errAt l i)]) ∧ SlR (intRp .u64) F w' a' c' (l.set i.toNat v) ∧ Ch No w w' := by
  by_cases hi : i < l.length
  · rw [errAt_ok hi]
    refine (ref16_Set_ok F w a c l i v h h0 hi hl hv hF).mono ?_
    rintro e w' ⟨r, rfl, ho, hc⟩
    obtain ⟨a', c', rfl, hs⟩ := ho.sl hF
    exact ⟨a', c', rfl, hs, hc⟩
  · rw [errAt_no (by omega), slotAt_no (by omega), set_no (by omega)]
    refine (ref16_Set_no F w a c l i v h (by omega) hl).mono ?_
    rintro e w' ⟨rfl, rfl⟩
    exact ⟨a, c, rfl, h, Ch.refl _ _⟩

theorem ref01_Same (F G : Nat → Prop) (w : World) (a a' : Option Addr) (c c' : Nat) (l l' : List Int) (h : SlR (intRp .u64) F w a c l) (h' : SlR (intRp .u64) G w a' c' l') (hl : l.length ≤ 100000) (hl' : l'.length ≤ 100000) :
    Calls Try.prog 16 #[.slice a l.length c, .slice a' l'.length c'] w fun e w' => e = .returned (.bool (decide (l = l'))) ∧ Ch No w w' := by
  by_cases hn : l.length = l'.length
  · have hn' : ((l.length : Int) == (l'.length : Int)) = true := by simp; omega
    have HN := Lib.hid hn; clear hn
    go_enter Try.func16, Try.ntmps16
    go_wp2
    go_loopw [5] (fun i wr => ∃ k : Nat, k ≤ l.length ∧ i = .int .i64 k ∧ l.take k = l'.take k ∧ Ch No w wr) (fun i _ => l.length - (intOf i).toNat)
    case atStart => exact ⟨0, by omega, rfl, rfl, Ch.refl _ _⟩
    case round =>
      obtain ⟨k, hk, rfl, ht, hc⟩ := hrel
      have HT := Lib.hid ht; clear ht
      by_cases hlt : k < l.length
      · obtain ⟨b, off, rfl, _, _, c1, _⟩ := (h.ch0 hc).int_at k hlt
        obtain ⟨b', off', rfl, _, _, c2, _⟩ := (h'.ch0 hc).int_at k (by have := HN.out; omega)
        obtain ⟨x, hx⟩ : ∃ x, x = l[k] := ⟨_, rfl⟩
        obtain ⟨y, hy⟩ : ∃ y, y = l'[k]'(by have := HN.out; omega) := ⟨_, rfl⟩
        rw [← hx] at c1
        rw [← hy] at c2
        have HX := Lib.hid hx; have HY := Lib.hid hy; clear hx hy
        have hk2 : (k : Int) < (l'.length : Int) := by have := HN.out; omega
        by_cases he : x = y
        · have hb : (x != y) = false := by simp [he]
          have HE := Lib.hid he; clear he
          go_wp2
          go_quiet (fail)
          go_wp2
          go_roundw
          case rel => exact ⟨k + 1, by omega, by go_num, take_eq_succ HT.out hlt (by have := HN.out; omega) (by rw [← HX.out, ← HY.out, HE.out]), hc.drewN _⟩
          case measure => simp [intOf]; omega
        · have hb : (x != y) = true := by simp [he]
          have HE := Lib.hid he; clear he
          go_wp2
          go_quiet (fail)
          go_wp2
          go_ret
          have : l ≠ l' := take_ne_of hlt (by have := HN.out; omega) (by rw [← HX.out, ← HY.out]; exact HE.out)
          exact ⟨by simp [this], hc.drewN _⟩
      · obtain rfl : k = l.length := by omega
        go_wp2
        go_ret
        have e : l = l' := by have := HT.out; rw [List.take_length, HN.out, List.take_length] at this; exact this
        exact ⟨by simp [e], hc⟩
  · have hn' : ((l.length : Int) == (l'.length : Int)) = false := by simp; omega
    have HN := Lib.hid hn; clear hn
    go_enter Try.func16, Try.ntmps16
    go_wp2
    go_ret
    exact ⟨by have := HN.out; simp; intro e; exact this (by rw [e]), Ch.refl _ _⟩
end Go.Proofs.Ytlmaflhfedbmdaa

/- Package plan: Pages, and the law's example. -/
import Derived.Test.YtlmaflhfedbmdaaDoorPlanRef
set_option linter.unusedVariables false
set_option linter.unusedSimpArgs false
namespace Go.Proofs.YtlmaflhfedbmdaaDoor
open Go Go.RowKit

/-- The state behind the first k things, each in its page. -/
def stOf (f : Nat → Int) (l : List Int) : Nat → Int × Int
  | 0 => (-1, 16)
  | k + 1 => placeP (stOf f l k).1 (stOf f l k).2 (l.getD k 0) (f k)
/-- How many pages the first k take. -/
def sumTo (f : Nat → Int) (l : List Int) : Nat → Int
  | 0 => 0
  | k + 1 => sumTo f l k + needN (stOf f l k).2 (l.getD k 0)
theorem stOf_ok (f : Nat → Int) (l : List Int) : ∀ k, PlanOk (stOf f l k).1 (stOf f l k).2
  | 0 => .inl ⟨rfl, rfl⟩
  | k + 1 => placeP_ok (stOf_ok f l k) _ _
theorem needN_bd (us size : Int) (hu : 0 ≤ us ∧ us ≤ 16) : 0 ≤ needN us size ∧ needN us size ≤ 1024 := by
  unfold needN
  split
  · omega
  · split <;> omega
theorem sumTo_bd (f : Nat → Int) (l : List Int) : ∀ k : Nat, 0 ≤ sumTo f l k ∧ sumTo f l k ≤ 1024 * k
  | 0 => by simp [sumTo]
  | k + 1 => by
    have h1 := sumTo_bd f l k
    have h2 := needN_bd (stOf f l k).2 (l.getD k 0) (stOf_ok f l k).bd.2.2
    simp only [sumTo]
    omega

theorem SlR.litInts {k : IntKind} {F : Nat → Prop} {w : World} {T : TypeId} (l : List Int) (hk : ∀ x ∈ l, InK k x) (hF : ∀ q, F q → q < w.heap.size) (hm : l.length ≤ maxLen) : SlR (intRp k) F (w.alloc (.cells (ints k l) T)) (some ⟨w.heap.size, 0, none⟩) l.length l := by
  refine ⟨Nat.le_refl _, hm, fun h => (by cases h), fun _ => ⟨w.heap.size, 0, rfl, fun h => by have := hF _ h; omega, by simp, fun i hi => ⟨[.int k l[i]], fun j u hj => ?_, rfl, hk _ (List.getElem_mem hi)⟩⟩⟩
  cases j with
  | succ j => simp at hj
  | zero =>
    simp only [List.getElem?_cons_zero, Option.some.injEq] at hj
    subst hj
    have := ints_get k l i hi
    have hc := cellOf (heap_alloc_new w (.cells (ints k l) T)) (0 + i * 1 + 0) (v := .int k l[i]) (by simpa using this)
    exact hc

theorem i64z : I64 0 := show _ ∧ _ from by decide

set_option maxRecDepth 100000 in
set_option maxHeartbeats 2000000 in
theorem plan_Pages (F : Nat → Prop) (w : World) (a : Option Addr) (c : Nat) (l : List Int) (h : SlR (intRp .i64) F w a c l) (hn : Nw w) (hl : l.length ≤ 1000) :
    Calls Tryd.prog 13 #[.slice a l.length c] w fun e w' => e = .returned (.int .i64 (sumTo (fun _ => 0) l l.length)) ∧ Ch No w w' := by
  have hnl := hn.lt
  go_enter Tryd.func13, Tryd.ntmps13
  go_wp2_with fail
  with_reducible refine (plan_New _ hn).mono ?_
  rintro e w1 ⟨p, rfl, hp, hps, hc1⟩
  dsimp only
  go_wp2_with fail
  go_loopw [4, 12] (fun t i wr => ∃ k : Nat, k ≤ l.length ∧ i = .int .i64 k ∧ t = .int .i64 (sumTo (fun _ => 0) l k) ∧ PlanAt wr p (stOf (fun _ => 0) l k).1 (stOf (fun _ => 0) l k).2 ∧ Ch No w wr) (fun _ i _ => l.length - (intOf i).toNat)
  case atStart => exact ⟨0, by omega, rfl, rfl, hp, hc1⟩
  case round =>
    obtain ⟨k, hk, rfl, rfl, hs, hc⟩ := hrel
    clear hp hc1
    by_cases hlt : k < l.length
    · obtain ⟨b, off, rfl, _, _, d0, hx⟩ := (h.ch0 hc).int_at k hlt
      have hbd := sumTo_bd (fun _ => 0) l k
      have hnb := needN_bd (stOf (fun _ => 0) l k).2 (l.getD k 0) (stOf_ok (fun _ => 0) l k).bd.2.2
      have e1 : sumTo (fun _ => 0) l (k + 1) = sumTo (fun _ => 0) l k + needN (stOf (fun _ => 0) l k).2 (l.getD k 0) := rfl
      have e2 : stOf (fun _ => 0) l (k + 1) = placeP (stOf (fun _ => 0) l k).1 (stOf (fun _ => 0) l k).2 (l.getD k 0) 0 := rfl
      have hg : l.getD k 0 = l[k] := by simp [List.getD_eq_getElem?_getD, hlt]
      rw [hg] at e1 e2 hnb
      obtain ⟨x, hxe⟩ : ∃ x, x = l[k] := ⟨_, rfl⟩
      rw [← hxe] at d0 hx e1 e2 hnb
      obtain ⟨⟨pg, us⟩, hst⟩ : ∃ s, s = stOf (fun _ => 0) l k := ⟨_, rfl⟩
      rw [← hst] at e1 e2 hs hnb
      obtain ⟨T, hT⟩ : ∃ T, T = sumTo (fun _ => 0) l k := ⟨_, rfl⟩
      rw [← hT] at e1 hbd ⊢
      have E1 := Lib.hid e1; have E2 := Lib.hid e2
      clear e1 e2 hst hT hxe hg h
      simp only at hs hnb
      have hnr := hn.ch hc (fun q => q)
      have hpl := hs.lt
      obtain ⟨N, hN⟩ : ∃ N, N = needN us x := ⟨_, rfl⟩
      have hneed := plan_Need wr p pg us x hs hnr hx
      rw [← hN] at hneed hnb
      have EN := Lib.hid hN; clear hN
      have W1 : IntKind.i64.wrap (T + N) = T + N := IntWalk.i64_in _ (by omega)
      go_wp2_with fail
      with_reducible refine hneed.mono ?_
      rintro e w2 ⟨rfl, hc2⟩
      dsimp only
      go_wp2_with fail
      with_reducible refine (plan_Place w2 p pg us x 0 (hs.ch hc2 (fun q => q)) (hnr.ch hc2 (fun q => q)) hx i64z).mono ?_
      rintro e w3 ⟨rfl, hs3, hc3⟩
      have hc4 : Ch No w w3 := (hc.trans hc2).andThen hc3 (fun q hq => .inr (by cases hq; omega))
      dsimp only
      go_wp2_with fail
      go_roundw
      case rel => exact ⟨k + 1, by omega, by go_num, by rw [E1.out, EN.out], by rw [E2.out]; exact hs3, hc4⟩
      case measure => exact meas_lt (by omega)
    · obtain rfl : k = l.length := by omega
      go_wp2_with fail
      go_ret
      exact ⟨rfl, hc⟩

theorem pages_lit (w : World) (hn : Nw w) (l : List Int) (N : Int) (hl : ∀ x ∈ l, 0 ≤ x ∧ x ≤ 20) (hm : l.length ≤ 1000) (hs : sumTo (fun _ => 0) l l.length = N) :
    Calls Tryd.prog 13 #[.slice (some ⟨w.heap.size, 0, none⟩) l.length l.length] (w.alloc (.cells (ints .i64 l) 3)) fun e w' => e = .returned (.int .i64 N) ∧ Ch No w w' := by
  refine (plan_Pages No _ _ _ l (SlR.litInts l (fun x hx => by have := hl x hx; exact show _ ∧ _ from by omega) (fun q h => False.elim h) (by unfold maxLen; omega)) (hn.ch ((Ch.refl No _).alloc _) (fun q => q)) hm).mono ?_
  rintro e w' ⟨rfl, hc⟩
  rw [hs]
  exact ⟨rfl, ((Ch.refl _ _).alloc _).trans hc⟩

set_option maxHeartbeats 2000000 in
theorem fixed10 (w : World) (hn : Nw w) : Calls Tryd.prog 6 #[] w fun e w' => e = .returned (.bool true) ∧ Ch No w w' := by
  have r1 : Calls Tryd.prog 13 #[.slice (some ⟨w.heap.size, 0, none⟩) 2 2] (w.alloc (.cells #[.int .i64 10, .int .i64 6] 3)) fun e w' => e = .returned (.int .i64 1) ∧ Ch No w w' :=
    pages_lit w hn [10, 6] 1 (by decide) (by decide) (by decide)
  have r2 : ∀ w, Nw w → Calls Tryd.prog 13 #[.slice (some ⟨w.heap.size, 0, none⟩) 3 3] (w.alloc (.cells #[.int .i64 10, .int .i64 6, .int .i64 1] 3)) fun e w' => e = .returned (.int .i64 2) ∧ Ch No w w' :=
    fun w hn => pages_lit w hn [10, 6, 1] 2 (by decide) (by decide) (by decide)
  have r3 : ∀ w, Nw w → Calls Tryd.prog 13 #[.slice (some ⟨w.heap.size, 0, none⟩) 4 4] (w.alloc (.cells #[.int .i64 10, .int .i64 6, .int .i64 1, .int .i64 20] 3)) fun e w' => e = .returned (.int .i64 4) ∧ Ch No w w' :=
    fun w hn => pages_lit w hn [10, 6, 1, 20] 4 (by decide) (by decide) (by decide)
  go_enter Tryd.func6, Tryd.ntmps6
  go_wp2_with fail
  with_reducible refine r1.mono ?_
  rintro e w1 ⟨rfl, hc1⟩
  have hn1 := hn.ch hc1 (fun q => q)
  dsimp only
  go_wp2_with fail
  with_reducible refine (r2 w1 hn1).mono ?_
  rintro e w2 ⟨rfl, hc2⟩
  have hn2 := hn1.ch hc2 (fun q => q)
  dsimp only
  go_wp2_with fail
  with_reducible refine (r3 w2 hn2).mono ?_
  rintro e w3 ⟨rfl, hc3⟩
  dsimp only
  go_wp2_with fail
  go_ret
  exact ⟨rfl, (hc1.trans hc2).trans hc3⟩
end Go.Proofs.YtlmaflhfedbmdaaDoor

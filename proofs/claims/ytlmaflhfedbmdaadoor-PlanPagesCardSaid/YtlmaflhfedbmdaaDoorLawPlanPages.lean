/- The law PlanPages: the walk. -/
import Derived.Test.YtlmaflhfedbmdaaDoorPlanRefPages
set_option linter.unusedVariables false
set_option linter.unusedSimpArgs false
namespace Go.Proofs.YtlmaflhfedbmdaaDoor
open Go Go.RowKit

theorem placeP_us {pg us size page : Int} (h : 0 ≤ page ∧ page ≤ 1024) : (placeP pg us size page).2 = if size < 1 ∨ 16384 < size then us else if size ≤ 16 - us then us + size else if 16 < size then us else size := by
  unfold placeP
  by_cases h1 : size < 1 ∨ 16384 < size
  · rw [if_pos h1, if_pos h1]
  · rw [if_neg h1, if_neg h1]
    by_cases h2 : size ≤ 16 - us
    · rw [if_pos h2, if_pos h2]
    · rw [if_neg h2, if_neg h2, if_neg (by omega)]
      by_cases h4 : 16 < size
      · rw [if_pos h4, if_pos h4]
      · rw [if_neg h4, if_neg h4]
theorem placeE_need {us size page : Int} (h : 0 ≤ page ∧ page ≤ 1024) : placeE us size page = needE size := by
  unfold placeE needE
  by_cases h1 : size < 1 ∨ 16384 < size
  · rw [if_pos h1, if_pos h1]
  · rw [if_neg h1, if_neg h1, if_neg (by omega : ¬ (page < 0 ∨ 1024 < page))]
    split <;> rfl
theorem st_us (f g : Nat → Int) (l : List Int) : ∀ k : Nat, (∀ j, j < k → (0 ≤ f j ∧ f j ≤ 1024) ∧ (0 ≤ g j ∧ g j ≤ 1024)) → (stOf f l k).2 = (stOf g l k).2 ∧ sumTo f l k = sumTo g l k
  | 0, _ => ⟨rfl, rfl⟩
  | k + 1, h => by
    obtain ⟨h1, h2⟩ := st_us f g l k (fun j hj => h j (by omega))
    obtain ⟨hf, hg⟩ := h k (by omega)
    simp only [stOf, sumTo]
    rw [placeP_us hf, placeP_us hg, h1, h2]
    exact ⟨rfl, rfl⟩

/-- The page of the k-th. -/
def pgAt (q : List Int) (k : Nat) : Int := if k < q.length then q.getD k 0 % 1024 else k

set_option maxRecDepth 100000 in
set_option maxHeartbeats 4000000 in
theorem pages10 (w : World) (a : Option Addr) (c : Nat) (l : List Int) (a' : Option Addr) (c' : Nat) (q : List Int) (h : SlR (intRp .i64) No w a c l) (hq : SlR (intRp .u16) No w a' c' q) (hn : Nw w) (hm : l.length ≤ 9223372036854775807) (hmq : q.length ≤ 9223372036854775807) :
    Calls Tryd.prog 4 #[.slice a l.length c, .slice a' q.length c'] w fun e w' => e = .returned (.bool true) ∧ Ch No w w' := by
  by_cases hcut : 100 < l.length
  · have b3 : decide ((l.length : Int) > 100) = true := decide_eq_true (by omega)
    go_enter Tryd.func4, Tryd.ntmps4
    go_wp2_with fail
    with_reducible refine (fixed10 _ hn).mono ?_
    rintro e w1 ⟨rfl, hc⟩
    dsimp only
    go_wp2_with fail
    go_ret
    exact ⟨rfl, hc⟩
  · have b3 : decide ((l.length : Int) > 100) = false := decide_eq_false (by omega)
    have hl100 : l.length ≤ 100 := by omega
    clear hcut hm
    have hqb : ∀ k, k < l.length → 0 ≤ pgAt q k ∧ pgAt q k ≤ 1024 := by
      intro k hk
      unfold pgAt
      split <;> omega
    go_enter Tryd.func4, Tryd.ntmps4
    go_wp2_with fail
    with_reducible refine (plan_New _ hn).mono ?_
    rintro e w1 ⟨p, rfl, hp, hps, hc1⟩
    dsimp only
    go_wp2_with fail
    go_loopw [6, 23] (fun t i wr => ∃ k : Nat, k ≤ l.length ∧ i = .int .i64 k ∧ t = .int .i64 (sumTo (pgAt q) l k) ∧ PlanAt wr p (stOf (pgAt q) l k).1 (stOf (pgAt q) l k).2 ∧ Ch No w wr) (fun _ i _ => l.length - (intOf i).toNat)
    case atStart => exact ⟨0, by omega, rfl, rfl, hp, hc1⟩
    case round =>
      obtain ⟨k, hk, rfl, rfl, hs, hc⟩ := hrel
      clear hp hc1
      by_cases hlt : k < l.length
      · obtain ⟨b, off, rfl, _, _, d0, i0⟩ := (h.ch0 hc).int_at k hlt
        have hbd := sumTo_bd (pgAt q) l k
        have hnb := needN_bd (stOf (pgAt q) l k).2 (l.getD k 0) (stOf_ok (pgAt q) l k).bd.2.2
        have e1 : sumTo (pgAt q) l (k + 1) = sumTo (pgAt q) l k + needN (stOf (pgAt q) l k).2 (l.getD k 0) := rfl
        have e2 : stOf (pgAt q) l (k + 1) = placeP (stOf (pgAt q) l k).1 (stOf (pgAt q) l k).2 (l.getD k 0) (pgAt q k) := rfl
        have hg : l.getD k 0 = l[k] := by simp [List.getD_eq_getElem?_getD, hlt]
        have hpv := hqb k hlt
        rw [hg] at e1 e2 hnb
        obtain ⟨x, hxe⟩ : ∃ x, x = l[k] := ⟨_, rfl⟩
        rw [← hxe] at d0 i0 e1 e2 hnb
        obtain ⟨⟨pg, us⟩, hst⟩ : ∃ s, s = stOf (pgAt q) l k := ⟨_, rfl⟩
        rw [← hst] at e1 e2 hs hnb
        obtain ⟨T, hT⟩ : ∃ T, T = sumTo (pgAt q) l k := ⟨_, rfl⟩
        rw [← hT] at e1 hbd ⊢
        have E1 := Lib.hid e1
        clear e1 hst hT hxe hg h
        simp only at hs hnb
        have hnr := hn.ch hc (fun q => q)
        have hpl := hs.lt
        obtain ⟨N, hN⟩ : ∃ N, N = needN us x := ⟨_, rfl⟩
        have hneed := plan_Need wr p pg us x hs hnr i0
        rw [← hN] at hneed hnb
        have EN := Lib.hid hN; clear hN
        have W1 : IntKind.i64.wrap (T + N) = T + N := IntWalk.i64_in _ (by omega)
        have hpe := placeE_need (us := us) (size := x) hpv
        have hee : (needE x != needE x) = false := by simp
        by_cases hkq : k < q.length
        · obtain ⟨b2, off2, rfl, _, _, d1, i1⟩ := (hq.ch0 hc).int_at k hkq
          have hpq : pgAt q k = q[k] % 1024 := by unfold pgAt; rw [if_pos hkq]; simp [List.getD_eq_getElem?_getD, hkq]
          obtain ⟨y, hye⟩ : ∃ y, y = q[k] := ⟨_, rfl⟩
          rw [← hye] at d1 i1 hpq
          have i1' : 0 ≤ y ∧ y ≤ 65535 := i1
          rw [hpq] at hpv hpe e2
          have E2 := Lib.hid e2
          have hm1 : y.tmod 1024 = y % 1024 := Int.tmod_eq_emod_of_nonneg i1'.1
          have W2 : IntKind.i64.wrap (y % 1024) = y % 1024 := IntWalk.i64_in _ (by omega)
          have W3 : IntKind.u16.wrap (y % 1024) = y % 1024 := by rw [show IntKind.u16.wrap (y % 1024) = (y % 1024) % 65536 by simp [IntKind.wrap, IntKind.bits, IntKind.signed]]; omega
          have hpi : I64 (y % 1024) := show _ ∧ _ from by omega
          clear hye hpq hq e2
          go_wp2_with fail
          with_reducible refine hneed.mono ?_
          rintro e w2 ⟨rfl, hc2⟩
          dsimp only
          go_wp2_with fail
          with_reducible refine (plan_Place w2 p pg us x (y % 1024) (hs.ch hc2 (fun q => q)) (hnr.ch hc2 (fun q => q)) i0 hpi).mono ?_
          rintro e w3 ⟨rfl, hs3, hc3⟩
          have hc4 : Ch No w w3 := (hc.trans hc2).andThen hc3 (fun q hq => .inr (by cases hq; omega))
          rw [hpe]
          dsimp only
          go_wp2_with fail
          go_roundw
          case rel => exact ⟨k + 1, by omega, by go_num, by rw [E1.out, EN.out], by rw [E2.out]; exact hs3, hc4⟩
          case measure => exact meas_lt (by omega)
        · have hpq : pgAt q k = (k : Int) := by unfold pgAt; rw [if_neg hkq]
          rw [hpq] at hpv hpe e2
          have E2 := Lib.hid e2
          have hpi : I64 (k : Int) := show _ ∧ _ from by omega
          have b4 : decide ((k : Int) < (q.length : Int)) = false := decide_eq_false (by omega)
          clear hpq hq e2
          go_wp2_with fail
          with_reducible refine hneed.mono ?_
          rintro e w2 ⟨rfl, hc2⟩
          dsimp only
          go_wp2_with fail
          with_reducible refine (plan_Place w2 p pg us x (k : Int) (hs.ch hc2 (fun q => q)) (hnr.ch hc2 (fun q => q)) i0 hpi).mono ?_
          rintro e w3 ⟨rfl, hs3, hc3⟩
          have hc4 : Ch No w w3 := (hc.trans hc2).andThen hc3 (fun q hq => .inr (by cases hq; omega))
          rw [hpe]
          dsimp only
          go_wp2_with fail
          go_roundw
          case rel => exact ⟨k + 1, by omega, by go_num, by rw [E1.out, EN.out], by rw [E2.out]; exact hs3, hc4⟩
          case measure => exact meas_lt (by omega)
      · obtain rfl : k = l.length := by omega
        have heq := (st_us (pgAt q) (fun _ => 0) l l.length (fun j hj => ⟨hqb j hj, by omega⟩)).2
        rw [heq]
        obtain ⟨T, hT⟩ : ∃ T, T = sumTo (fun _ => 0) l l.length := ⟨_, rfl⟩
        have hr := h.ch0 hc
        have hnr := hn.ch hc (fun q => q)
        clear heq h
        simp only [← hT]
        have hp1 : ∀ w, SlR (intRp .i64) No w a c l → Nw w → Calls Tryd.prog 13 #[.slice a l.length c] w fun e w' => e = .returned (.int .i64 T) ∧ Ch No w w' := by
          intro w h1 h2
          have := plan_Pages No w a c l h1 h2 (by omega)
          rwa [← hT] at this
        have hp2 : ∀ w, SlR (intRp .i64) No w a c l → Calls Tryd.prog 14 #[.slice a l.length c] w fun e w' => e = .returned (.int .i64 T) ∧ Ch No w w' := by
          intro w h1
          have := ref10_Pages No w a c l h1 (by omega)
          rwa [← hT] at this
        clear hT
        go_wp2_with fail
        with_reducible refine (fixed10 _ hnr).mono ?_
        rintro e w2 ⟨rfl, hc2⟩
        dsimp only
        go_wp2_with fail
        with_reducible refine (hp1 w2 (hr.ch0 hc2) (hnr.ch hc2 (fun q => q))).mono ?_
        rintro e w3 ⟨rfl, hc3⟩
        dsimp only
        go_wp2_with fail
        with_reducible refine (hp2 w3 ((hr.ch0 hc2).ch0 hc3)).mono ?_
        rintro e w4 ⟨rfl, hc4⟩
        dsimp only
        go_wp2_with fail
        go_ret
        exact ⟨rfl, ((hc.trans hc2).trans hc3).trans hc4⟩
end Go.Proofs.YtlmaflhfedbmdaaDoor

/- The document's answer for layer 4 (ids): Same. -/
import Derived.Test.YtinjbonodlkafaaDoorKit
set_option linter.unusedVariables false
set_option linter.unusedSimpArgs false
namespace Go.Proofs.YtinjbonodlkafaaDoor
open Go Go.RowKit

theorem SlR.lit1 {k : IntKind} {F : Nat → Prop} {w : World} {g : Nat} {x : Int} {T : TypeId} (h : w.heap[g]? = some (.cells #[.int k x] T (0, 0))) (hx : InK k x) (hF : ¬ F g) : SlR (intRp k) F w (some ⟨g, 0, none⟩) 1 [x] :=
  ⟨Nat.le_refl _, by unfold maxLen; omega, fun q => (by cases q), fun _ => ⟨g, 0, rfl, hF, heap_lt h, fun i hi => by
    have hi0 : i = 0 := by simpa using hi
    subst hi0
    refine ⟨[.int k x], fun j u hj => ?_, rfl, hx⟩
    have hj0 : j = 0 := by have := (List.getElem?_eq_some_iff.1 hj).1; simpa using this
    subst hj0
    simp at hj
    subst hj
    exact cellOf h 0 rfl⟩⟩

theorem ref04_Same (F G : Nat → Prop) (w : World) (a a' : Option Addr) (c c' : Nat) (l l' : List Int) (h : SlR (intRp .i64) F w a c l) (h' : SlR (intRp .i64) G w a' c' l') (hl : l.length ≤ 100000) (hl' : l'.length ≤ 100000) :
    Calls Tryd.prog 14 #[.slice a l.length c, .slice a' l'.length c'] w fun e w' => e = .returned (.bool (decide (l = l'))) ∧ Ch No w w' := by
  by_cases hn : l.length = l'.length
  · have hn' : ((l.length : Int) != (l'.length : Int)) = false := by simp; omega
    have HN := Lib.hid hn; clear hn
    go_enter Tryd.func14, Tryd.ntmps14
    go_wp2_with fail
    go_loopw [5] (fun i wr => ∃ k : Nat, k ≤ l.length ∧ i = .int .i64 k ∧ l.take k = l'.take k ∧ Ch No w wr) (fun i _ => l.length - (intOf i).toNat)
    case atStart => exact ⟨0, by omega, rfl, rfl, Ch.refl _ _⟩
    case round =>
      obtain ⟨k, hk, rfl, ht, hc⟩ := hrel
      have HT := Lib.hid ht; clear ht
      by_cases hlt : k < l.length
      · obtain ⟨b, off, rfl, _, _, c1, _⟩ := (h.ch0 hc).int_at k hlt
        obtain ⟨b', off', rfl, _, _, c3, _⟩ := (h'.ch0 hc).int_at k (by have := HN.out; omega)
        obtain ⟨x, hx⟩ : ∃ x, x = l[k] := ⟨_, rfl⟩
        obtain ⟨y, hy⟩ : ∃ y, y = l'[k]'(by have := HN.out; omega) := ⟨_, rfl⟩
        rw [← hx] at c1
        rw [← hy] at c3
        have HX := Lib.hid hx; have HY := Lib.hid hy; clear hx hy
        have hk2 : (k : Int) < (l'.length : Int) := by have := HN.out; omega
        by_cases he : x = y
        · have e1 : (x == y) = true := by simp [he]
          have HE := Lib.hid he; clear he
          go_wp2_with fail
          go_quiet (fail)
          go_wp2_with fail
          go_roundw
          case rel => exact ⟨k + 1, by omega, by go_num, take_eq_succ HT.out hlt (by have := HN.out; omega) (by rw [← HX.out, ← HY.out, HE.out]), hc.drewN _⟩
          case measure => exact meas_lt (by omega)
        · have HE := Lib.hid he
          have e1 : (x == y) = false := by simp [he]
          clear he
          go_wp2_with fail
          go_quiet (fail)
          go_wp2_with fail
          go_ret
          have : l ≠ l' := take_ne_of hlt (by have := HN.out; omega) (by rw [← HX.out, ← HY.out]; exact HE.out)
          exact ⟨by simp [this], hc.drewN _⟩
      · obtain rfl : k = l.length := by omega
        go_wp2_with fail
        go_ret
        have e : l = l' := by have := HT.out; rw [List.take_length, HN.out, List.take_length] at this; exact this
        exact ⟨by rw [decide_eq_true e]; rfl, hc⟩
  · have hn' : ((l.length : Int) != (l'.length : Int)) = true := by simp; omega
    have HN := Lib.hid hn; clear hn
    go_enter Tryd.func14, Tryd.ntmps14
    go_wp2_with fail
    go_ret
    exact ⟨by rw [decide_eq_false (fun e => HN.out (by rw [e]))]; rfl, Ch.refl _ _⟩
end Go.Proofs.YtinjbonodlkafaaDoor

/- The reference's Same, of rows of pairs. -/
import Derived.Test.YtdmhenanikkabaaDoorKit
import Derived.BigQuiet
set_option linter.unusedVariables false
set_option linter.unusedSimpArgs false
namespace Go.Proofs.YtdmhenanikkabaaDoor
open Go Go.RowKit

set_option maxRecDepth 100000 in
theorem ref06_Same (F G : Nat → Prop) (w : World) (a a' : Option Addr) (c c' : Nat) (l l' : List (Int × Int)) (h : SlR (pairRp .i64) F w a c l) (h' : SlR (pairRp .i64) G w a' c' l') (hl : l.length ≤ 100000) (hl' : l'.length ≤ 100000) :
    Calls Tryd.prog 10 #[.slice a l.length c, .slice a' l'.length c'] w fun e w' => e = .returned (.bool (decide (l = l'))) ∧ Ch No w w' := by
  by_cases hn : l.length = l'.length
  · have hn' : ((l.length : Int) != (l'.length : Int)) = false := by simp; omega
    have HN := Lib.hid hn; clear hn
    go_enter Tryd.func10, Tryd.ntmps10
    go_wp2
    go_loopw [5] (fun i wr => ∃ k : Nat, k ≤ l.length ∧ i = .int .i64 k ∧ l.take k = l'.take k ∧ Ch No w wr) (fun i _ => l.length - (intOf i).toNat)
    case atStart => exact ⟨0, by omega, rfl, rfl, Ch.refl _ _⟩
    case round =>
      obtain ⟨k, hk, rfl, ht, hc⟩ := hrel
      have HT := Lib.hid ht; clear ht
      by_cases hlt : k < l.length
      · obtain ⟨b, off, rfl, _, _, c1, c2, _⟩ := (h.ch0 hc).pair_at k hlt
        obtain ⟨b', off', rfl, _, _, c3, c4, _⟩ := (h'.ch0 hc).pair_at k (by have := HN.out; omega)
        obtain ⟨x, hx⟩ : ∃ x, x = l[k] := ⟨_, rfl⟩
        obtain ⟨y, hy⟩ : ∃ y, y = l'[k]'(by have := HN.out; omega) := ⟨_, rfl⟩
        rw [← hx] at c1 c2
        rw [← hy] at c3 c4
        have HX := Lib.hid hx; have HY := Lib.hid hy; clear hx hy
        have hk2 : (k : Int) < (l'.length : Int) := by have := HN.out; omega
        by_cases he : x = y
        · have e1 : (x.1 == y.1) = true := by simp [he]
          have e2 : (x.2 == y.2) = true := by simp [he]
          have HE := Lib.hid he; clear he
          go_wp2
          go_quiet (fail)
          go_wp2
          go_roundw
          case rel => exact ⟨k + 1, by omega, by go_num, take_eq_succ HT.out hlt (by have := HN.out; omega) (by rw [← HX.out, ← HY.out, HE.out]), hc.drewN _⟩
          case measure => simp [intOf]; omega
        · have HE := Lib.hid he
          by_cases e1 : x.1 = y.1
          · have e3 : (x.1 == y.1) = true := by simp [e1]
            have e2 : (x.2 == y.2) = false := by
              simp only [beq_eq_false_iff_ne, ne_eq]
              intro e2
              exact he (Prod.ext e1 e2)
            clear he e1
            go_wp2
            go_quiet (fail)
            go_wp2
            go_ret
            have : l ≠ l' := take_ne_of hlt (by have := HN.out; omega) (by rw [← HX.out, ← HY.out]; exact HE.out)
            exact ⟨by simp [this], hc.drewN _⟩
          · have e3 : (x.1 == y.1) = false := by simp [e1]
            clear he e1
            go_wp2
            go_quiet (fail)
            go_wp2
            go_ret
            have : l ≠ l' := take_ne_of hlt (by have := HN.out; omega) (by rw [← HX.out, ← HY.out]; exact HE.out)
            exact ⟨by simp [this], hc.drewN _⟩
      · obtain rfl : k = l.length := by omega
        go_wp2
        go_ret
        have e : l = l' := by have := HT.out; rw [List.take_length, HN.out, List.take_length] at this; exact this
        exact ⟨by simp [e], hc⟩
  · have hn' : ((l.length : Int) != (l'.length : Int)) = true := by simp; omega
    have HN := Lib.hid hn; clear hn
    go_enter Tryd.func10, Tryd.ntmps10
    go_wp2
    go_ret
    exact ⟨by have := HN.out; simp; intro e; exact this (by rw [e]), Ch.refl _ _⟩
end Go.Proofs.YtdmhenanikkabaaDoor

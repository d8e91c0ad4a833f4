/- Package owner: Of. -/
import Derived.Test.YtlmaflhfedbmdaaOwn
import Derived.WalkMore
import Derived.Deep.LoopGhost
set_option linter.unusedVariables false
set_option linter.unusedSimpArgs false
namespace Go.Proofs.Ytlmaflhfedbmdaa
open Go Go.RowKit

theorem infoRun : (Try.prog.info? 72).map (fun i => (i.zero, i.size, i.bytes)) = some (some (.agg #[.int .i64 0, .int .i64 0]), 2, 16) := by kernel_rfl

/-- The last one is longer by one. -/
def bumpLast : List (Int × Int) → List (Int × Int)
  | [] => []
  | [(a, b)] => [(a, b + 1)]
  | x :: y :: r => x :: bumpLast (y :: r)
theorem bumpLast_append (l : List (Int × Int)) (a b : Int) : bumpLast (l ++ [(a, b)]) = l ++ [(a, b + 1)] := by
  induction l with
  | nil => rfl
  | cons x r ih =>
    cases r with
    | nil => rfl
    | cons y r => simp only [List.cons_append, bumpLast] at ih ⊢; rw [ih]
/-- o's runs among the first k pages. -/
def runsOf (f : Int → Int) (o : Int) : Nat → List (Int × Int)
  | 0 => []
  | k + 1 => if f k = o then (if 0 < k ∧ f ((k : Int) - 1) = o then bumpLast (runsOf f o k) else runsOf f o k ++ [((k : Int), 1)]) else runsOf f o k
theorem runsOf_more (f : Int → Int) (o : Int) (k : Nat) (l : List (Int × Int)) (hl : runsOf f o k = l) (hk : k = 0 ∨ f ((k : Int) - 1) ≠ o) : ∀ n, (∀ j : Nat, j < n + 1 → f ((k : Int) + j) = o) → runsOf f o (k + (n + 1)) = l ++ [((k : Int), (n : Int) + 1)]
  | 0, h => by
    have h0 := h 0 (by omega)
    simp only [Nat.zero_add, runsOf]
    simp at h0
    rw [if_pos h0, if_neg, hl]
    · rfl
    · rintro ⟨h1, h2⟩
      rcases hk with hk | hk
      · omega
      · exact hk h2
  | n + 1, h => by
    have ih := runsOf_more f o k l hl hk n (fun j hj => h j (by omega))
    have h1 := h (n + 1) (by omega)
    have h2 := h n (by omega)
    rw [show k + (n + 1 + 1) = k + (n + 1) + 1 by omega, runsOf, ih]
    rw [if_pos (by rw [← h1]; congr 1), if_pos ⟨by omega, by rw [← h2]; congr 1; simp; omega⟩, bumpLast_append]
    simp
theorem runsOf_out (f : Int → Int) (o : Int) (n : Nat) (ho : 1 ≤ o) (hf : ∀ i : Int, ¬ (0 ≤ i ∧ i < n) → f i = 0) : ∀ k, runsOf f o (n + k) = runsOf f o n
  | 0 => rfl
  | k + 1 => by
    rw [← Nat.add_assoc, runsOf, if_neg, runsOf_out f o n ho hf k]
    rw [hf _ (by omega)]; omega
theorem bumpLast_length : ∀ l, (bumpLast l).length = l.length
  | [] => rfl
  | [_] => rfl
  | x :: y :: r => by simp only [bumpLast, List.length_cons]; rw [bumpLast_length (y :: r)]; simp
theorem runsOf_length (f : Int → Int) (o : Int) : ∀ k, (runsOf f o k).length ≤ k
  | 0 => Nat.le_refl _
  | k + 1 => by
    have := runsOf_length f o k
    simp only [runsOf]
    split
    · split
      · rw [bumpLast_length]; omega
      · simp; omega
    · omega

set_option maxRecDepth 100000 in
set_option maxHeartbeats 2000000 in
theorem owner_Of (F : Nat → Prop) (w : World) (p m n : Nat) (f : Int → Int) (G : Nat → Prop) (o : Int) (h : OwnAt w p m n f G) (ho : I64 o) (hF : ∀ k, F k → k < w.heap.size) :
    Calls Try.prog 39 #[.pointer (some ⟨p, 0, none⟩), .int .i64 o] w fun e w' => ∃ v, e = .returned v ∧ OwnR (pairRp .i64) w.heap.size 72 F w' v (if o < 1 then [] else runsOf f o n) ∧ Ch No w w' := by
  have ho' := ho.bd
  by_cases h1 : o < 1
  · rw [if_pos h1]
    go_enter Try.func39, Try.ntmps39
    go_wp2_with fail
    go_step3
    go_wp2_with fail
    try rw [Exit.noGoto_ret]
    go_ret
    exact ⟨_, rfl, OwnR.nilR _ _ _ _ _, Ch.refl _ _⟩
  · rw [if_neg h1]
    have hn := h.nle
    have hout := h.out
    go_enter Try.func39, Try.ntmps39
    go_wp2_with fail
    go_step3
    go_wp2_with fail
    go_step3
    go_wp2_with fail
    go_loopw [5, 6] (fun v i wr => ∃ k : Nat, k ≤ n + 1 ∧ i = .int .i64 k ∧ (k = 0 ∨ f ((k : Int) - 1) ≠ o) ∧ OwnR (pairRp .i64) w.heap.size 72 F wr v (runsOf f o k) ∧ Ch No w wr) (fun _ i _ => n + 1 - (intOf i).toNat)
    case atStart => exact ⟨0, by omega, rfl, .inl rfl, OwnR.nilR _ _ _ _ _, Ch.refl _ _⟩
    case round =>
      obtain ⟨k, hk, rfl, hb, hown, hc⟩ := hrel
      have h' := h.ch0 hc
      have c1 := cellOf h'.head 1 rfl
      have hlen := runsOf_length f o k
      obtain ⟨l, hl⟩ : ∃ l, l = runsOf f o k := ⟨_, rfl⟩
      rw [← hl] at hown hlen
      have HL := Lib.hid hl; clear hl
      have HB := Lib.hid hb; clear hb
      have HO := Lib.hid hout
      by_cases hlt : k < n
      · have hp := owner_Page wr p m n f G (k : Int) h' (show _ ∧ _ from by omega)
        by_cases hf : f k = o
        · have hf' : (f k != o) = false := by simp [hf]
          have HF := Lib.hid hf; clear hf
          clear h hout
          go_wp2_with (go_at_call 34; with_reducible refine hp.mono ?_; rintro e w' ⟨rfl, rfl⟩)
          go_loopw [5, 6, 7] (fun v i2 i wq => ∃ q : Nat, q ≤ n + 1 ∧ u5 = v ∧ i2 = .int .i64 k ∧ i = .int .i64 ((q : Int) + 1) ∧ (∀ j : Nat, j < q + 1 → f ((k : Int) + j) = o) ∧ k + q < n ∧ wr = wq) (fun _ _ i _ => n + 1 - (intOf i).toNat)
          case atStart =>
            refine ⟨0, by omega, rfl, rfl, rfl, ?_, by omega, rfl⟩
            intro j hj
            obtain rfl : j = 0 := by omega
            simpa using HF.out
          case round =>
            obtain ⟨q, hq, rfl, rfl, rfl, hall, hkq, rfl⟩ := hrel
            have hp2 := owner_Page wr p m n f G ((k : Int) + ((q : Int) + 1)) h' (show _ ∧ _ from by omega)
            have HA := Lib.hid hall; clear hall
            by_cases hf2 : f ((k : Int) + ((q : Int) + 1)) = o
            · have hf3 : (f ((k : Int) + ((q : Int) + 1)) != o) = false := by simp [hf2]
              have HF2 := Lib.hid hf2; clear hf2
              go_wp2_with (go_at_call 34; with_reducible refine hp2.mono ?_; rintro e w' ⟨rfl, rfl⟩)
              go_roundw
              case rel =>
                refine ⟨q + 1, by omega, rfl, rfl, by go_num, ?_, ?_, trivial⟩
                · intro j hj
                  by_cases e : j = q + 1
                  · subst e; simpa using HF2.out
                  · exact HA.out j (by omega)
                · by_cases e : k + (q + 1) < n
                  · exact e
                  · have := HO.out ((k : Int) + ((q : Int) + 1)) (by omega)
                    rw [HF2.out] at this
                    omega
              case measure => simp only [intOf]; omega
            · have hf3 : (f ((k : Int) + ((q : Int) + 1)) != o) = true := by simp [hf2]
              have HF2 := Lib.hid hf2; clear hf2
              have hs := hc.size
              go_wp2_with (first | (go_at_call 34; with_reducible refine hp2.mono ?_; rintro e w' ⟨rfl, rfl⟩) | (at_builtin; go_loud (refine wpL_push rfl _ _ _ rfl w.heap.size 72 (.agg #[.int .i64 0, .int .i64 0]) 2 16 Try.underlying81 infoRun rfl (by decide) (pairRp .i64) rfl F u5 _ rfl hown [.int .i64 k, .int .i64 ((q : Int) + 1)] _ ((k : Int), (q : Int) + 1) 1 (by go_simp) ⟨rfl, ⟨show _ ∧ _ from by omega, show _ ∧ _ from by omega⟩⟩ hF (by omega) (by omega) hs ?_); intro v1 w1 ho1 hg1 _))
              go_roundw
              case rel =>
                refine ⟨k + (q + 1) + 1, by omega, by go_num, .inr ?_, ?_, hg1 _ _ (Nat.le_refl _) hc⟩
                · have := HF2.out
                  rwa [show ((k + (q + 1) + 1 : Nat) : Int) - 1 = (k : Int) + ((q : Int) + 1) by omega]
                · have e := runsOf_more f o k l HL.out.symm HB.out q HA.out
                  rw [runsOf, if_neg, e]
                  · exact ho1
                  · have := HF2.out
                    rwa [show ((k + (q + 1) : Nat) : Int) = (k : Int) + ((q : Int) + 1) by omega]
              case measure => simp only [intOf]; omega
        · have hf' : (f k != o) = true := by simp [hf]
          have HF := Lib.hid hf; clear hf
          clear h hout
          go_wp2_with (go_at_call 34; with_reducible refine hp.mono ?_; rintro e w' ⟨rfl, rfl⟩)
          go_roundw
          case rel => exact ⟨k + 1, by omega, by go_num, .inr (by have := HF.out; simpa using this), by rw [runsOf, if_neg HF.out, ← HL.out]; exact hown, hc⟩
          case measure => exact meas_lt (by omega)
      · go_wp2_with fail
        try rw [Exit.noGoto_ret]
        go_ret
        refine ⟨_, rfl, ?_, hc⟩
        have e : runsOf f o k = runsOf f o n := by
          obtain ⟨d, rfl⟩ : ∃ d, k = n + d := ⟨k - n, by omega⟩
          exact runsOf_out f o n (by omega) hout d
        rw [← e, ← HL.out]
        exact hown
end Go.Proofs.Ytlmaflhfedbmdaa

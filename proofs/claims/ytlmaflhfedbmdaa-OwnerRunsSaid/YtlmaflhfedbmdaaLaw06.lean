/- The law OwnerPlays. -/
import Derived.Test.YtlmaflhfedbmdaaRef06b
import Derived.Test.YtlmaflhfedbmdaaRef06d
set_option linter.unusedVariables false
set_option linter.unusedSimpArgs false
namespace Go.Proofs.Ytlmaflhfedbmdaa
open Go Go.RowKit

theorem i10 : I64 10 := show _ ∧ _ from by decide
theorem i2 : I64 2 := show _ ∧ _ from by decide
theorem i7 : I64 7 := show _ ∧ _ from by decide
theorem i40 : I64 40 := show _ ∧ _ from by decide
theorem i64 : I64 64 := show _ ∧ _ from by decide

set_option maxHeartbeats 2000000 in
theorem fixed06 (w : World) : Calls Try.prog 29 #[] w fun e w' => e = .returned (.bool true) ∧ Ch No w w' := by
  go_enter Try.func29, Try.ntmps29
  go_wp2_with fail
  with_reducible refine (owner_New 10 _ i10 No).mono ?_
  rintro e w1 ⟨p, m, rfl, h1, hc1, hp1, hm1⟩
  rw [show (min (max (10 : Int) 0) 1024).toNat = 10 from rfl] at h1
  dsimp only
  go_wp2_with fail
  with_reducible refine (owner_Set_ok w1 p m 10 _ _ 2 2 7 h1 i2 i2 i7 (by decide) (by decide) (by decide) (by decide) (by decide)).mono ?_
  rintro e w2 ⟨rfl, G2, h2, hG1, hG2, hc2⟩
  dsimp only
  go_wp2_with fail
  with_reducible refine (owner_Word w2 p m 10 _ _ 40 h2 i40).mono ?_
  rintro e w3 ⟨rfl, rfl⟩
  rw [show setF (fun _ => 0) 2 (2 + 2) 7 (40 / 16) = 7 from rfl]
  dsimp only
  go_wp2_with fail
  with_reducible refine (owner_Word w2 p m 10 _ _ 64 h2 i64).mono ?_
  rintro e w3 ⟨rfl, rfl⟩
  rw [show setF (fun _ => 0) 2 (2 + 2) 7 (64 / 16) = 0 from rfl]
  dsimp only
  go_wp2_with fail
  go_ret
  exact ⟨rfl, hc1.andThen hc2 (fun k hk => .inr (by rcases hk with rfl | rfl <;> assumption))⟩

/-- What Set answers, and leaves. -/
def setErr (n : Nat) (x y o : Int) : Int := if o < 0 then 1 else if fits n x y then 0 else 8
def setL (l : List Int) (x y o : Int) : List Int := if 0 ≤ o ∧ fits l.length x y then setK l x.toNat o y.toNat else l
theorem setL_length (l : List Int) (x y o : Int) : (setL l x y o).length = l.length := by unfold setL; split <;> simp [setK_length]

theorem owner_Set (w : World) (p m n : Nat) (l : List Int) (G : Nat → Prop) (x y o : Int) (h : OwnAt w p m n (pageAt l) G) (hl : l.length = n) (hx : I64 x) (hy : I64 y) (ho : I64 o) :
    Calls Try.prog 32 #[.pointer (some ⟨p, 0, none⟩), .agg #[.int .i64 x, .int .i64 y], .int .i64 o] w fun e w' => e = .returned (.int .i64 (setErr n x y o)) ∧ ∃ G', OwnAt w' p m n (pageAt (setL l x y o)) G' ∧ (∀ k, G k → G' k) ∧ (∀ k, G' k → G k ∨ w.heap.size ≤ k) ∧ Ch G w w' := by
  unfold setErr setL
  by_cases h0 : o < 0
  · rw [if_pos h0, if_neg (by omega)]
    refine (owner_Set_arg w p m n (pageAt l) G x y o h0).mono ?_
    rintro e w' ⟨rfl, hc⟩
    exact ⟨rfl, G, h.ch0 hc, fun _ q => q, fun _ q => .inl q, hc.ofNo⟩
  · rw [if_neg h0]
    by_cases hf : fits n x y
    · have hf' := hf
      unfold fits at hf'
      rw [if_pos hf, if_pos ⟨by omega, by rw [hl]; exact hf⟩, pageAt_setK _ _ _ _ (by omega), show ((x.toNat : Nat) : Int) = x by omega, show ((y.toNat : Nat) : Int) = y by omega]
      exact owner_Set_ok w p m n _ G x y o h hx hy ho (by omega) hf'.1 hf'.2.1 hf'.2.2.1 hf'.2.2.2
    · rw [if_neg hf, if_neg (by rw [hl]; exact fun q => hf q.2)]
      refine (owner_Set_no w p m n (pageAt l) G x y o h hx hy (by omega) hf).mono ?_
      rintro e w' ⟨rfl, hc⟩
      exact ⟨rfl, G, h.ch0 hc, fun _ q => q, fun _ q => .inl q, hc.ofNo⟩

theorem ref06_Set (F : Nat → Prop) (w : World) (a : Option Addr) (c : Nat) (l : List Int) (x y o : Int) (h : SlR (intRp .i64) F w a c l) (hx : I64 x) (hy : I64 y) (ho : I64 o) (hn : l.length ≤ 100000) (hF : ∀ k, F k → k < w.heap.size) :
    Calls Try.prog 33 #[.slice a l.length c, .agg #[.int .i64 x, .int .i64 y], .int .i64 o] w fun e w' => ∃ a' c', e = .returned (.tuple #[.slice a' (setL l x y o).length c', .int .i64 (setErr l.length x y o)]) ∧ SlR (intRp .i64) F w' a' c' (setL l x y o) ∧ Ch No w w' := by
  unfold setErr setL
  by_cases h0 : o < 0
  · rw [if_pos h0, if_neg (by omega)]
    refine (ref06_Set_arg w _ x y o h0).mono ?_
    rintro e w' ⟨rfl, hc⟩
    exact ⟨_, _, rfl, h.ch0 hc, hc⟩
  · rw [if_neg h0]
    by_cases hf : fits l.length x y
    · have hf' := hf
      unfold fits at hf'
      rw [if_pos hf, if_pos ⟨by omega, hf⟩]
      have := ref06_Set_ok F w a c l x.toNat y.toNat o h (by omega) ho (by omega) hn hF
      rw [show ((x.toNat : Nat) : Int) = x by omega, show ((y.toNat : Nat) : Int) = y by omega] at this
      refine this.mono ?_
      rintro e w' ⟨r, rfl, ho', hc⟩
      obtain ⟨a', c', rfl, hs⟩ := ho'.sl hF
      exact ⟨a', c', rfl, hs, hc⟩
    · rw [if_neg hf, if_neg (fun q => hf q.2)]
      refine (ref06_Set_no w a c _ x y o hx hy (by omega) hf hn).mono ?_
      rintro e w' ⟨rfl, hc⟩
      exact ⟨_, _, rfl, h.ch0 hc, hc⟩
end Go.Proofs.Ytlmaflhfedbmdaa

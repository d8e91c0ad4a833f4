/- Layer 2's laws: the example, the acts, and BitsNext. -/
import Derived.Test.YtpldogmamifdpaaBits4
set_option linter.unusedVariables false
set_option linter.unusedSimpArgs false
namespace Go.Proofs.Ytpldogmamifdpaa
open Go Go.RowKit

set_option maxHeartbeats 1000000 in
theorem fixed02 (w : World) : Calls Try.prog 11 #[] w fun e w' => e = .returned (.bool true) ∧ Ch No w w' := by
  have hx5 : markB (List.replicate 5 false) 1 true 1 = [false, true, false, false, false] := rfl
  have hcn : cntTo [false, true, false, false, false] 5 = 1 := by decide
  have hnew : Calls Try.prog 12 #[.int .i64 5] w fun e w' => ∃ p g, e = .returned (.tuple #[.pointer (some ⟨p, 0, none⟩), .int .i64 0]) ∧ RowAt w' p g (List.replicate 5 false) ∧ w.heap.size ≤ p ∧ w.heap.size ≤ g ∧ Ch No w w' := bits_New w 5 (by omega)
  go_enter Try.func11, Try.ntmps11
  go_wp2_with fail
  with_reducible refine hnew.mono ?_
  rintro e w1 ⟨p, g, rfl, h1, hp, hg, hc1⟩
  dsimp only
  go_wp2_with fail
  have hm : Calls Try.prog 13 #[.pointer (some ⟨p, 0, none⟩), .agg #[.int .i64 1, .int .i64 1], .bool true] w1 fun e w' => e = .returned (.int .i64 0) ∧ RowAt w' p g [false, true, false, false, false] ∧ Ch (One g) w1 w' := bits_Mark w1 p g _ 1 1 true h1 (by decide)
  with_reducible refine hm.mono ?_
  rintro e w2 ⟨rfl, h2, hc2⟩
  dsimp only
  go_wp2_with fail
  have hfd : Calls Try.prog 26 #[.pointer (some ⟨p, 0, none⟩), .int .i64 2] w2 fun e w' => ∃ r, e = .returned (optV r) ∧ IsFind [false, true, false, false, false] 2 r ∧ w2 = w' := bits_Find w2 p g _ 2 h2 (by omega) (by omega)
  with_reducible refine hfd.mono ?_
  rintro e w3 ⟨r, rfl, hr, rfl⟩
  have hr2 : r = some 2 := hr.uniq (r' := some 2) ⟨⟨by decide, fun j hj => by
      have : j = 0 ∨ j = 1 := by omega
      rcases this with rfl | rfl <;> rfl⟩, fun b hb hf => by
      have h01 : b = 0 ∨ b = 1 := by omega
      rcases h01 with rfl | rfl
      · have := hf.2 1 (by omega); cases this
      · have := hf.2 0 (by omega); cases this⟩
  subst hr2
  have hct : Calls Try.prog 15 #[.pointer (some ⟨p, 0, none⟩)] w2 fun e w' => e = .returned (.int .i64 1) ∧ w2 = w' := by
    have := bits_Count w2 p g _ h2
    rw [show cntTo [false, true, false, false, false] ([false, true, false, false, false] : List Bool).length = 1 from hcn] at this
    exact this
  rw [show optV (some 2) = .tuple #[.int .i64 2, .bool true] from rfl]
  dsimp only
  go_wp2_with fail
  with_reducible refine hct.mono ?_
  rintro e w4 ⟨rfl, rfl⟩
  dsimp only
  go_wp2_with fail
  go_ret
  exact ⟨rfl, hc1.andThen hc2 (fun q hq => .inr (by have : q = g := hq; omega))⟩

structure BAct where
  a : Int
  b : Int
  on : Bool
def bactRp : Rp BAct := flat 3 (fun a => [.int .i64 a.a, .int .i64 a.b, .bool a.on]) (fun _ => rfl) (by intro x u hu; simp at hu; rcases hu with rfl | rfl | rfl <;> rfl) (fun a => I64 a.a ∧ I64 a.b)
theorem SlR.bact_at {F : Nat → Prop} {w : World} {a : Option Addr} {c : Nat} {l : List BAct} (h : SlR bactRp F w a c l) (i : Nat) (hi : i < l.length) :
    ∃ b off, a = some ⟨b, off, none⟩ ∧ b < w.heap.size ∧ w.cell? ⟨b, off + i * 3, none⟩ = some (.int .i64 l[i].a) ∧ w.cell? ⟨b, off + i * 3 + 1, none⟩ = some (.int .i64 l[i].b) ∧ w.cell? ⟨b, off + i * 3 + 2, none⟩ = some (.bool l[i].on) ∧ I64 l[i].a ∧ I64 l[i].b := by
  obtain ⟨b, off, ha, hb, hlt, es, hc, he, hw⟩ := h.at_ i hi
  subst he
  exact ⟨b, off, ha, hlt, hc 0 _ rfl, hc 1 _ rfl, hc 2 _ rfl, hw⟩

/-- What Mark leaves, and answers. -/
def markL (x : List Bool) (a b : Int) (on : Bool) : List Bool := if fitsB x.length a b then markB x a.toNat on b.toNat else x
def markE (x : List Bool) (a b : Int) : Int := if fitsB x.length a b then 0 else 8
theorem markL_length (x : List Bool) (a b : Int) (on : Bool) : (markL x a b on).length = x.length := by unfold markL; split <;> simp [markB_length]
theorem bits_Mark_all (w : World) (p g : Nat) (x : List Bool) (a b : Int) (on : Bool) (h : RowAt w p g x) (ha : I64 a) (hb : I64 b) :
    Calls Try.prog 13 #[.pointer (some ⟨p, 0, none⟩), .agg #[.int .i64 a, .int .i64 b], .bool on] w fun e w' => e = .returned (.int .i64 (markE x a b)) ∧ RowAt w' p g (markL x a b on) ∧ Ch (One g) w w' := by
  unfold markE markL
  by_cases hf : fitsB x.length a b
  · rw [if_pos hf, if_pos hf]
    have hf2 := hf
    unfold fitsB at hf2
    have := bits_Mark w p g x a.toNat b.toNat on h (by omega)
    rw [show ((a.toNat : Nat) : Int) = a by omega, show ((b.toNat : Nat) : Int) = b by omega] at this
    exact this
  · rw [if_neg hf, if_neg hf]
    refine (bits_Mark_no w p g x a b on h ha hb hf).mono ?_
    rintro e w' ⟨rfl, hc⟩
    exact ⟨rfl, h.ch0 hc, hc.ofNo⟩

theorem cnt_skip (x : List Bool) (f : Nat) : ∀ j : Nat, f ≤ j → (∀ i, f ≤ i → i < j → x.getD i false = false) → cntTo x j = cntTo x f
  | 0, h, _ => by obtain rfl : f = 0 := by omega
                  rfl
  | j + 1, h, hf => by
    by_cases h2 : f = j + 1
    · rw [h2]
    · show popB (fun i => x.getD i false) j + (if x.getD j false = true then 1 else 0) = cntTo x f
      rw [hf j (by omega) (by omega)]
      simp only [Bool.false_eq_true, if_false, Nat.add_zero]
      exact cnt_skip x f j (by omega) (fun i h1 h3 => hf i h1 (by omega))
theorem cnt_one (x : List Bool) (j : Nat) (h : x.getD j false = true) : cntTo x (j + 1) = cntTo x j + 1 := by
  show popB (fun i => x.getD i false) j + (if x.getD j false = true then 1 else 0) = cntTo x j + 1
  rw [h]
  rfl

set_option maxRecDepth 100000 in
set_option maxHeartbeats 4000000 in
theorem next02 (w : World) (n : Int) (a : Option Addr) (c : Nat) (l : List BAct) (h : SlR bactRp No w a c l) (hn : 0 ≤ n ∧ n ≤ 65535) (hl : l.length ≤ 9223372036854775807) :
    Calls Try.prog 3 #[.int .u16 n, .slice a l.length c] w fun e w' => e = .returned (.bool true) ∧ Ch No w w' := by
  by_cases hcut : 60 < l.length
  · have b3 : decide ((l.length : Int) > 60) = true := decide_eq_true (by omega)
    go_enter Try.func3, Try.ntmps3
    go_wp2_with fail
    with_reducible refine (fixed02 _).mono ?_
    rintro e w1 ⟨rfl, hc⟩
    dsimp only
    go_wp2_with fail
    go_ret
    exact ⟨rfl, hc⟩
  · have b3 : decide ((l.length : Int) > 60) = false := decide_eq_false (by omega)
    have hl60 : l.length ≤ 60 := by omega
    clear hcut hl
    obtain ⟨M, hM⟩ : ∃ M, M = n % 300 := ⟨_, rfl⟩
    have hM0 : 0 ≤ M ∧ M < 300 := by omega
    have e1 : IntKind.i64.wrap n = n := IntWalk.i64_in _ (by omega)
    have e2 : n.tmod 300 = M := by rw [hM]; exact Int.tmod_eq_emod_of_nonneg hn.1
    have e3 : IntKind.i64.wrap M = M := IntWalk.i64_in _ (by omega)
    obtain ⟨N, hN⟩ : ∃ N : Nat, N = M.toNat := ⟨_, rfl⟩
    have hMN : M = N := by omega
    have hN3 : N < 300 := by omega
    clear hM
    subst hMN
    clear hN hM0
    go_enter Try.func3, Try.ntmps3
    go_wp2_with fail
    with_reducible refine (bits_New w N (by omega)).mono ?_
    rintro e w1 ⟨p, g, rfl, h1, hp, hg, hc1⟩
    obtain ⟨x0, hx0⟩ : ∃ z, z = List.replicate N false := ⟨_, rfl⟩
    have hxl : x0.length = N := by rw [hx0, List.length_replicate]
    rw [← hx0] at h1
    clear hx0
    dsimp only
    go_wp2_with fail
    go_loopw [32] (fun i wr => ∃ (k : Nat) (x : List Bool), k ≤ l.length ∧ i = .int .i64 k ∧ x.length = N ∧ RowAt wr p g x ∧ Ch No w wr) (fun i _ => l.length - (intOf i).toNat)
    case atStart => exact ⟨0, x0, by omega, rfl, hxl, h1, hc1⟩
    case round =>
      obtain ⟨k, x, hk, rfl, hx, hr, hc⟩ := hrel
      clear h1 hc1 hxl
      by_cases hlt : k < l.length
      · obtain ⟨b, off, rfl, _, d0, d1, d2, ia, ib⟩ := (h.ch0 hc).bact_at k hlt
        obtain ⟨A, hA⟩ : ∃ A, A = l[k] := ⟨_, rfl⟩
        rw [← hA] at d0 d1 d2 ia ib
        clear hA h
        have hal : Ch No wr (wr.alloc (.cells #[.int .i64 A.a, .int .i64 A.b, .bool A.on] 32)) := (Ch.refl _ _).alloc _
        go_wp2_with fail
        with_reducible refine (bits_Mark_all _ p g x A.a A.b A.on (hr.ch0 hal) ia ib).mono ?_
        rintro e w2 ⟨rfl, hr2, hc2⟩
        have hml := markL_length x A.a A.b A.on
        dsimp only
        go_wp2_with fail
        go_roundw
        case rel => exact ⟨k + 1, _, by omega, by go_num, by rw [hml]; exact hx, hr2, (hc.trans hal).andThen hc2 (fun q hq => .inr (by have : q = g := hq; omega))⟩
        case measure => exact meas_lt (by omega)
      · obtain rfl : k = l.length := by omega
        clear h
        have hct := bits_Count wr p g x hr
        rw [hx] at hct
        have hctb : cntTo x N ≤ N := popB_le _ _
        obtain ⟨CC, hCC⟩ : ∃ z, z = cntTo x N := ⟨_, rfl⟩
        rw [← hCC] at hct
        have HC := Lib.hid hCC
        clear hCC
        go_wp2_with fail
        go_loopw [9, 10] (fun m f wq => ∃ f0 : Nat, f0 ≤ N ∧ f = .int .i64 f0 ∧ m = .int .i64 (cntTo x f0 : Nat) ∧ wr = wq) (fun _ f _ => N - (intOf f).toNat)
        case atStart => exact ⟨0, by omega, rfl, rfl, rfl⟩
        case round =>
          obtain ⟨f0, hf0, rfl, rfl, rfl⟩ := hrel
          have hnx := bits_Next wr p g x (f0 : Int) hr (show _ ∧ _ from by omega)
          have hcb : cntTo x f0 ≤ f0 := popB_le _ _
          obtain ⟨m0, hm0⟩ : ∃ z, z = cntTo x f0 := ⟨_, rfl⟩
          rw [← hm0] at hcb
          simp only [← hm0]
          have HM := Lib.hid hm0; clear hm0
          go_wp2_with fail
          with_reducible refine hnx.mono ?_
          rintro e w2 ⟨r, rfl, hir, rfl⟩
          cases r with
          | none =>
            rw [show optV none = .tuple #[.int .i64 0, .bool false] from rfl]
            have hmc : m0 = CC := by
              rw [HM.out, HC.out]
              exact (cnt_skip x f0 N hf0 (fun i h1 h2 => hir i (by omega))).symm
            subst hmc
            dsimp only
            go_wp2_with fail
            with_reducible refine (fixed02 _).mono ?_
            rintro e w3 ⟨rfl, hc3⟩
            have hct3 := bits_Count w3 p g x (hr.ch0 hc3)
            rw [hx, ← HC.out] at hct3
            dsimp only
            go_wp2_with fail
            with_reducible refine hct3.mono ?_
            rintro e w4 ⟨rfl, rfl⟩
            dsimp only
            go_wp2_with fail
            go_ret
            exact ⟨rfl, hc.trans hc3⟩
          | some j =>
            rw [show optV (some j) = .tuple #[.int .i64 j, .bool true] from rfl]
            obtain ⟨j1, j2, j3, j4⟩ := hir
            have b5 : decide ((j : Int) < (f0 : Int)) = false := decide_eq_false (by omega)
            have b6 : decide ((j : Int) ≥ (N : Int)) = false := decide_eq_false (by omega)
            have hhas := bits_Has wr p g x (j : Int) hr (show _ ∧ _ from by omega)
            rw [getB_nat, j3] at hhas
            have hlen := bits_Len wr p g x hr
            rw [hx] at hlen
            have hcj : cntTo x (j + 1) = m0 + 1 := by rw [cnt_one x j j3, cnt_skip x f0 j (by omega) (fun i h1 h2 => j4 i (by omega) h2), ← HM.out]
            have HJ := Lib.hid hcj
            clear j3 j4 hcj
            dsimp only
            go_wp2_with fail
            with_reducible refine hhas.mono ?_
            rintro e w4 ⟨rfl, rfl⟩
            dsimp only
            go_wp2_with fail
            with_reducible refine hlen.mono ?_
            rintro e w4 ⟨rfl, rfl⟩
            dsimp only
            go_wp2_with fail
            go_roundw
            case rel => exact ⟨j + 1, by omega, by go_num, by rw [HJ.out]; go_num, trivial⟩
            case measure =>
              show N - ((j : Int) + 1).toNat < N - ((f0 : Int)).toNat
              omega
end Go.Proofs.Ytpldogmamifdpaa

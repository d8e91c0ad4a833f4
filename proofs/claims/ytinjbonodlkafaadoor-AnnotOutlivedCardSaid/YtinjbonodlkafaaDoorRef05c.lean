/- The document's answer for layer 5 (tree): Remove. -/
import Derived.Test.YtinjbonodlkafaaDoorRef05b
set_option linter.unusedVariables false
set_option linter.unusedSimpArgs false
namespace Go.Proofs.YtinjbonodlkafaaDoor
open Go Go.RowKit

theorem rm_take {L : TRows} {i : Nat} (h : i < L.length) (k : Int) : rmRow (L.take (i + 1)) k = rmRow (L.take i) k ++ (if L[i].1 = k then [] else [L[i]]) := by
  rw [List.take_succ_eq_append_getElem h]
  unfold rmRow
  rw [List.filter_append]
  congr 1
  by_cases e : L[i].1 = k <;> simp [e]

/-- The address of a slice whose row lies in a block's own places. -/
def SomeA (q : Option Addr) : Prop := ∃ b off, q = some ⟨b, off, none⟩

set_option maxRecDepth 100000 in
theorem ref05_Remove (F : Nat → Prop) (w : World) (q : Option Addr) (c : Nat) (L : TRows) (k : Int) (h : SlR (pairRp .i64) F w q c L) (hL : L.length ≤ 100000) (hF : ∀ k, F k → k < w.heap.size) :
    Calls Tryd.prog 20 #[.slice q L.length c, .int .i64 k] w fun e w' => ∃ q' c', e = .returned (.tuple #[.slice q' (tOut L k).1.length c', .int .i64 (tOut L k).2]) ∧ SlR (pairRp .i64) F w' q' c' (tOut L k).1 ∧ (SomeA q → SomeA q') ∧ Ch No w w' := by
  have hha := ref05_Has F w q c L k h hL
  cases ea : hasB L k with
  | false =>
    rw [ea] at hha
    rw [show tOut L k = (L, 2) from by unfold tOut; rw [if_pos ea]]
    clear ea
    go_enter Tryd.func20, Tryd.ntmps20
    go_wp2_with fail
    with_reducible refine hha.mono ?_
    rintro e w1 ⟨rfl, rfl⟩
    dsimp only
    go_wp2_with fail
    go_ret2
    exact ⟨q, c, rfl, h, fun z => z, Ch.refl _ _⟩
  | true =>
    rw [ea] at hha
    have hkd := ref05_Kids F w q c L k h hL hF
    by_cases hke : kids L k = []
    · rw [show tOut L k = (rmRow L k, 0) from by unfold tOut; rw [if_neg (by rw [ea]; simp), if_neg (fun z => z hke)]]
      rw [hke] at hkd
      have hrl := rm_length L k
      obtain ⟨B, hB⟩ : ∃ z, z = w.heap.size := ⟨_, rfl⟩
      have hl0 := h.more (F' := fun k => B ≤ k) (fun k q => .inr (by omega))
      obtain ⟨R, hR⟩ : ∃ z, z = rmRow L k := ⟨_, rfl⟩
      rw [← hR]
      have HR := Lib.hid hR
      have HB := Lib.hid hB
      clear ea hke hB hR hrl
      go_enter Tryd.func20, Tryd.ntmps20
      go_wp2_with fail
      with_reducible refine hha.mono ?_
      rintro e w1 ⟨rfl, rfl⟩
      dsimp only
      go_wp2_with fail
      with_reducible refine hkd.mono ?_
      rintro e w2 ⟨qk, ck, rfl, _, hc2⟩
      have hB2 : B ≤ w2.heap.size := by have := HB.out; have := hc2.size; omega
      try dsimp only [List.length_nil]
      go_wp2_with fail
      go_loopw [6, 7] (fun v u wq => ∃ (i : Nat), i ≤ L.length ∧ u = .int .i64 i ∧ OwnR (pairRp .i64) B 68 F wq v (rmRow (L.take i) k) ∧ B ≤ wq.heap.size ∧ SlR (pairRp .i64) (fun k => B ≤ k) wq q c L ∧ Ch No w wq ∧ (rmRow (L.take i) k = [] → v = .slice (some ⟨w2.heap.size, 0, none⟩) 0 0)) (fun _ u _ => L.length - (intOf u).toNat)
      case atStart => exact ⟨0, by omega, rfl, OwnR.lit0 hB2, by simp; omega, (hl0.ch0 hc2).ch0 ((Ch.refl _ _).alloc _), hc2.alloc _, fun _ => rfl⟩
      case round =>
        obtain ⟨i, hi, rfl, ho, hBr, hsl, hC, hlit⟩ := hrel
        have HLI := Lib.hid hlit
        clear hlit
        have hhF : ∀ k, F k → k < B := fun k q => by have := hF k q; have := HB.out; omega
        by_cases hlt : i < L.length
        · obtain ⟨bq, off, rfl, _, _, d0, d1, hxI⟩ := hsl.pair_at i hlt
          have hkt := rm_take hlt k
          have hkl := rm_length (L.take i) k
          have htl : (L.take i).length ≤ i := by rw [List.length_take]; omega
          obtain ⟨x, hx⟩ : ∃ z, z = L[i] := ⟨_, rfl⟩
          rw [← hx] at d0 d1 hxI hkt
          obtain ⟨j, p⟩ := x
          dsimp only at d0 d1 hxI hkt
          by_cases he : j = k
          · have b1 : (j != k) = false := by simp [he]
            rw [if_pos he, List.append_nil] at hkt
            have HK := Lib.hid hkt
            clear he hkt hx hkl htl
            go_wp2_with fail
            go_roundw
            case rel => exact ⟨i + 1, by omega, by go_num, by rw [HK.out]; exact ho, hBr, hsl, hC, by rw [HK.out]; exact HLI.out⟩
            case measure => exact meas_lt (by omega)
          · have b1 : (j != k) = true := by simp [he]
            rw [if_neg he] at hkt
            have HK := Lib.hid hkt
            have HL := Lib.hid (show (rmRow (L.take i) k).length ≤ 100000 from by omega)
            clear he hkt hx hkl htl
            go_wp2_with (at_builtin; go_loud (refine wpL_push rfl _ _ _ rfl B 68 (.agg #[.int .i64 0, .int .i64 0]) 2 16 Tryd.underlying25 infoRow5 rfl (by decide) (pairRp .i64) rfl F _ _ rfl ho [.int .i64 j, .int .i64 p] _ (j, p) 1 (by go_simp) ⟨rfl, hxI⟩ hhF (by have := HL.out; omega) (by have := HL.out; omega) hBr ?_); intro v9 w9 ho9 hg9 hk9)
            go_roundw
            case rel => exact ⟨i + 1, by omega, by go_num, by rw [HK.out]; exact ho9, by have := hk9.size; omega, hsl.ch hk9 (fun k z => (ho.blk _ z).1), hg9 No w (by have := HB.out; omega) hC, fun z => by rw [HK.out] at z; simp at z⟩
            case measure => exact meas_lt (by omega)
        · obtain rfl : i = L.length := by omega
          rw [List.take_length, ← HR.out] at ho
          have hl2 := HLI.out
          rw [List.take_length, ← HR.out] at hl2
          have HLJ := Lib.hid hl2
          clear hl2 HLI
          go_wp2_with fail
          go_ret2
          obtain ⟨q', c', hv, hs⟩ := ho.sl hhF
          refine ⟨q', c', by rw [hv]; rfl, hs, fun _ => ?_, hC⟩
          by_cases hR0 : R = []
          · have := HLJ.out hR0
            rw [hv, Value.slice.injEq] at this
            exact ⟨_, _, this.1⟩
          · obtain ⟨b, off, e, _⟩ := hs.rd hR0
            exact ⟨b, off, e⟩
    · rw [show tOut L k = (L, 6) from by unfold tOut; rw [if_neg (by rw [ea]; simp), if_pos hke]]
      obtain ⟨kn, hkn⟩ : ∃ z, z = (kids L k).length := ⟨_, rfl⟩
      have hk0 : 0 < kn := by rw [hkn]; exact List.length_pos_iff.2 hke
      have hkl := kids_length L k
      rw [← hkn] at hkd
      have b3 : decide ((kn : Int) > 0) = true := decide_eq_true (by omega)
      clear ea hke hkl hkn
      go_enter Tryd.func20, Tryd.ntmps20
      go_wp2_with fail
      with_reducible refine hha.mono ?_
      rintro e w1 ⟨rfl, rfl⟩
      dsimp only
      go_wp2_with fail
      with_reducible refine hkd.mono ?_
      rintro e w2 ⟨qk, ck, rfl, _, hc2⟩
      dsimp only
      go_wp2_with fail
      go_ret2
      exact ⟨q, c, rfl, h.ch0 hc2, fun z => z, hc2⟩
end Go.Proofs.YtinjbonodlkafaaDoor

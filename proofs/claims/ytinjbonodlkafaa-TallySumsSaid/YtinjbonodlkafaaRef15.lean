/- The document's answer for layer 15 (tally): Of, Set. -/
import Derived.Test.YtinjbonodlkafaaTallyAll
set_option linter.unusedVariables false
set_option linter.unusedSimpArgs false
namespace Go.Proofs.Ytinjbonodlkafaa
open Go Go.RowKit

theorem ref15_Of (F : Nat → Prop) (w : World) (q : Option Addr) (c : Nat) (L : Rows) (k : Int) (h : SlR (pairRp .i64) F w q c L) (hL : L.length ≤ 100000) :
    Calls Try.prog 34 #[.slice q L.length c, .int .i64 k] w fun e w' => e = .returned (.int .i64 (cnt L k)) ∧ w = w' := by
  go_enter Try.func34, Try.ntmps34
  go_wp2_with fail
  go_loopw [5] (fun v wr => ∃ i : Nat, i ≤ L.length ∧ v = .int .i64 i ∧ cnt L k = cnt (L.drop i) k ∧ w = wr) (fun v _ => L.length - (intOf v).toNat)
  case atStart => exact ⟨0, by omega, rfl, rfl, rfl⟩
  case round =>
    obtain ⟨i, hi, rfl, hn, rfl⟩ := hrel
    have HN := Lib.hid hn
    clear hn
    by_cases hlt : i < L.length
    · obtain ⟨bq, off, rfl, _, _, d0, d1, _⟩ := h.pair_at i hlt
      have hdr : L.drop i = L[i] :: L.drop (i + 1) := List.drop_eq_getElem_cons hlt
      obtain ⟨x, hx⟩ : ∃ z, z = L[i] := ⟨_, rfl⟩
      rw [← hx] at d0 d1 hdr
      obtain ⟨j, n⟩ := x
      dsimp only at d0 d1
      have HD := Lib.hid hdr
      clear hdr hx
      by_cases he : j = k
      · have b1 : (j == k) = true := by simp [he]
        have HE := Lib.hid he
        clear he
        go_wp2_with fail
        go_ret
        exact ⟨by rw [HN.out, HD.out, cnt, if_pos HE.out]; rfl, rfl⟩
      · have b1 : (j == k) = false := by simp [he]
        have HE := Lib.hid he
        clear he
        go_wp2_with fail
        go_roundw
        case rel => exact ⟨i + 1, by omega, by go_num, by rw [HN.out, HD.out, cnt, if_neg HE.out], by first | rfl | trivial⟩
        case measure => exact meas_lt (by omega)
    · obtain rfl : i = L.length := by omega
      go_wp2_with fail
      go_ret
      exact ⟨by rw [HN.out, List.drop_length]; rfl, rfl⟩

set_option maxRecDepth 100000 in
theorem ref15_Set (F : Nat → Prop) (w : World) (q : Option Addr) (c : Nat) (L : Rows) (k n : Int) (h : SlR (pairRp .i64) F w q c L) (hk : I64 k) (hn : I64 n) (hL : L.length ≤ 100000) (hF : ∀ k, F k → k < w.heap.size) :
    Calls Try.prog 30 #[.slice q L.length c, .int .i64 k, .int .i64 n] w fun e w' => ∃ q' c', e = .returned (.slice q' (rset L k n).length c') ∧ SlR (pairRp .i64) F w' q' c' (rset L k n) ∧ Ch No w w' := by
  obtain ⟨B, hB⟩ : ∃ z, z = w.heap.size := ⟨_, rfl⟩
  have hl0 := h.more (F' := fun k => B ≤ k) (fun k q => .inr (by omega))
  have hlen := fun b i => ins_length k n b (L.drop i)
  obtain ⟨lz, hlz⟩ : ∃ z, z = decide (n = 0) := ⟨_, rfl⟩
  have b0 : (n == 0) = lz := by rw [hlz]; by_cases e : n = 0 <;> simp [e]
  have hR : rset L k n = ins k n lz L := by rw [hlz]; rfl
  have HR := Lib.hid hR
  have HB := Lib.hid hB
  have hlen0 := rset_length L k n
  obtain ⟨R, hRR⟩ : ∃ z, z = rset L k n := ⟨_, rfl⟩
  rw [← hRR] at HR hlen0 ⊢
  clear hlz hR hB hRR
  go_enter Try.func30, Try.ntmps30
  go_wp2_with fail
  go_loopw [7, 8, 9] (fun v lv u wq => ∃ (i : Nat) (laid : Bool) (out : Rows), i ≤ L.length ∧ u = .int .i64 i ∧ lv = .bool laid ∧ OwnR (pairRp .i64) B 60 F wq v out ∧ out ++ ins k n laid (L.drop i) = R ∧ B ≤ wq.heap.size ∧ SlR (pairRp .i64) (fun k => B ≤ k) wq q c L ∧ Ch No w wq) (fun _ _ u _ => L.length - (intOf u).toNat)
  case atStart => exact ⟨0, lz, [], by omega, rfl, rfl, OwnR.lit0 (by have := HB.out; omega), by rw [HR.out]; rfl, by have := HB.out; simp; omega, hl0.ch0 ((Ch.refl _ _).alloc _), (Ch.refl _ _).alloc _⟩
  case round =>
    obtain ⟨i, laid, out, hi, rfl, rfl, ho, hins, hBr, hsl, hC⟩ := hrel
    have hol : out.length ≤ R.length := by rw [← hins, List.length_append]; omega
    have HO := Lib.hid hol
    have hhF : ∀ k, F k → k < B := fun k q => by have := hF k q; have := HB.out; omega
    by_cases hlt : i < L.length
    · obtain ⟨bq, off, rfl, _, _, d0, d1, hxI⟩ := hsl.pair_at i hlt
      have hdr : L.drop i = L[i] :: L.drop (i + 1) := List.drop_eq_getElem_cons hlt
      obtain ⟨x, hx⟩ : ∃ z, z = L[i] := ⟨_, rfl⟩
      rw [← hx] at d0 d1 hdr hxI
      obtain ⟨j, u⟩ := x
      dsimp only at d0 d1 hxI
      rw [hdr] at hins
      clear hdr hx
      cases laid with
      | true =>
        by_cases he : j = k
        · have b2 : (j != k) = false := by simp [he]
          have HI := Lib.hid (show out ++ ins k n true (L.drop (i + 1)) = R from by rw [← hins]; simp [ins, he])
          clear he hins hol
          go_wp2_with fail
          go_roundw
          case rel => exact ⟨i + 1, true, out, by omega, by go_num, rfl, ho, HI.out, hBr, hsl, hC⟩
          case measure => exact meas_lt (by omega)
        · have b2 : (j != k) = true := by simp [he]
          have HI := Lib.hid (show (out ++ [(j, u)]) ++ ins k n true (L.drop (i + 1)) = R from by rw [← hins]; simp [ins, he])
          clear he hins hol
          go_wp2_with (at_builtin; go_loud (refine wpL_push rfl _ _ _ rfl B 60 (.agg #[.int .i64 0, .int .i64 0]) 2 16 Try.underlying46 infoRun rfl (by decide) (pairRp .i64) rfl F _ out rfl ho [.int .i64 j, .int .i64 u] _ (j, u) 1 (by go_simp) ⟨rfl, hxI⟩ hhF (by have := HO.out; omega) (by have := HO.out; omega) hBr ?_); intro v9 w9 ho9 hg9 hk9)
          go_roundw
          case rel => exact ⟨i + 1, true, _, by omega, by go_num, rfl, ho9, HI.out, by have := hk9.size; omega, hsl.ch hk9 (fun k z => (ho.blk _ z).1), hg9 No w (by have := HB.out; omega) hC⟩
          case measure => exact meas_lt (by omega)
      | false =>
        by_cases hgt : j > k
        · have b3 : decide (j > k) = true := decide_eq_true hgt
          have he : j ≠ k := by omega
          have b2 : (j != k) = true := by simp [he]
          have HI := Lib.hid (show ((out ++ [(k, n)]) ++ [(j, u)]) ++ ins k n true (L.drop (i + 1)) = R from by rw [← hins]; simp [ins, hgt, he])
          have hn0 : ¬ B ≤ bq := by assumption
          have hol1 : out.length + 1 ≤ 100000 := by
            have := congrArg List.length HI.out
            simp only [List.length_append, List.length_singleton] at this
            omega
          have HO1 := Lib.hid hol1
          clear hgt hins hol he hol1
          go_wp2_with (first
            | (have _q := ho8; at_builtin; go_loud (refine wpL_push rfl _ _ _ rfl B 60 (.agg #[.int .i64 0, .int .i64 0]) 2 16 Try.underlying46 infoRun rfl (by decide) (pairRp .i64) rfl F _ (out ++ [(k, n)]) rfl ho8 [.int .i64 j, .int .i64 u] _ (j, u) 1 (by go_simp) ⟨rfl, hxI⟩ hhF (by have := HO1.out; simp only [List.length_append, List.length_singleton]; omega) (by have := HO1.out; simp only [List.length_append, List.length_singleton]; omega) (by have := hk8.size; omega) ?_); intro v9 w9 ho9 hg9 hk9)
            | (at_builtin; go_loud (refine wpL_push rfl _ _ _ rfl B 60 (.agg #[.int .i64 0, .int .i64 0]) 2 16 Try.underlying46 infoRun rfl (by decide) (pairRp .i64) rfl F _ out rfl ho [.int .i64 k, .int .i64 n] _ (k, n) 1 (by go_simp) ⟨rfl, hk, hn⟩ hhF (by have := HO.out; omega) (by have := HO.out; omega) hBr ?_); intro v8 w8 ho8 hg8 hk8; have d2 := hk8.cell d0 (fun z => hn0 (ho.blk _ z).1); have d3 := hk8.cell d1 (fun z => hn0 (ho.blk _ z).1)))
          go_roundw
          case rel => exact ⟨i + 1, true, _, by omega, by go_num, rfl, ho9, HI.out, by have := hk8.size; have := hk9.size; omega, (hsl.ch hk8 (fun k z => (ho.blk _ z).1)).ch hk9 (fun k z => (ho8.blk _ z).1), hg9 No w (by have := HB.out; omega) (hg8 No w (by have := HB.out; omega) hC)⟩
          case measure => exact meas_lt (by omega)
        · have b3 : decide (j > k) = false := decide_eq_false hgt
          by_cases he : j = k
          · have b2 : (j != k) = false := by simp [he]
            have HI := Lib.hid (show out ++ ins k n false (L.drop (i + 1)) = R from by rw [← hins]; simp [ins, he])
            clear he hgt hins hol
            go_wp2_with fail
            go_roundw
            case rel => exact ⟨i + 1, false, out, by omega, by go_num, rfl, ho, HI.out, hBr, hsl, hC⟩
            case measure => exact meas_lt (by omega)
          · have b2 : (j != k) = true := by simp [he]
            have HI := Lib.hid (show (out ++ [(j, u)]) ++ ins k n false (L.drop (i + 1)) = R from by rw [← hins]; simp [ins, he, hgt])
            clear he hgt hins hol
            go_wp2_with (at_builtin; go_loud (refine wpL_push rfl _ _ _ rfl B 60 (.agg #[.int .i64 0, .int .i64 0]) 2 16 Try.underlying46 infoRun rfl (by decide) (pairRp .i64) rfl F _ out rfl ho [.int .i64 j, .int .i64 u] _ (j, u) 1 (by go_simp) ⟨rfl, hxI⟩ hhF (by have := HO.out; omega) (by have := HO.out; omega) hBr ?_); intro v9 w9 ho9 hg9 hk9)
            go_roundw
            case rel => exact ⟨i + 1, false, _, by omega, by go_num, rfl, ho9, HI.out, by have := hk9.size; omega, hsl.ch hk9 (fun k z => (ho.blk _ z).1), hg9 No w (by have := HB.out; omega) hC⟩
            case measure => exact meas_lt (by omega)
    · obtain rfl : i = L.length := by omega
      rw [List.drop_length] at hins
      cases laid with
      | true =>
        have HI := Lib.hid (show out = R from by rw [← hins]; simp [ins])
        clear hins hol
        go_wp2_with fail
        go_ret
        obtain ⟨q', c', hv, hs⟩ := ho.sl hhF
        rw [← HI.out]
        exact ⟨q', c', by rw [hv]; rfl, hs, hC⟩
      | false =>
        have HI := Lib.hid (show out ++ [(k, n)] = R from by rw [← hins]; simp [ins])
        clear hins hol
        go_wp2_with (at_builtin; go_loud (refine wpL_push rfl _ _ _ rfl B 60 (.agg #[.int .i64 0, .int .i64 0]) 2 16 Try.underlying46 infoRun rfl (by decide) (pairRp .i64) rfl F _ out rfl ho [.int .i64 k, .int .i64 n] _ (k, n) 1 (by go_simp) ⟨rfl, hk, hn⟩ hhF (by have := HO.out; omega) (by have := HO.out; omega) hBr ?_); intro v9 w9 ho9 hg9 hk9)
        go_ret
        obtain ⟨q', c', hv, hs⟩ := ho9.sl hhF
        rw [← HI.out]
        exact ⟨q', c', by rw [hv]; rfl, hs, hg9 No w (by have := HB.out; omega) hC⟩
end Go.Proofs.Ytinjbonodlkafaa

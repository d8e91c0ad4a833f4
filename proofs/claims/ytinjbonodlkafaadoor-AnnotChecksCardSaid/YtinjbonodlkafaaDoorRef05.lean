/- The document's answer for layer 5 (tree): Has, Parent, Kids, Within. -/
import Derived.Test.YtinjbonodlkafaaDoorTreeWithin
set_option linter.unusedVariables false
set_option linter.unusedSimpArgs false
namespace Go.Proofs.YtinjbonodlkafaaDoor
open Go Go.RowKit

theorem infoRow5 : (Tryd.prog.info? 68).map (fun i => (i.zero, i.size, i.bytes)) = some (some (.agg #[.int .i64 0, .int .i64 0]), 2, 16) := by kernel_rfl

theorem ref05_Has (F : Nat → Prop) (w : World) (q : Option Addr) (c : Nat) (L : TRows) (k : Int) (h : SlR (pairRp .i64) F w q c L) (hL : L.length ≤ 100000) :
    Calls Tryd.prog 28 #[.slice q L.length c, .int .i64 k] w fun e w' => e = .returned (.bool (hasB L k)) ∧ w = w' := by
  go_enter Tryd.func28, Tryd.ntmps28
  go_wp2_with fail
  go_loopw [5] (fun v wr => ∃ i : Nat, i ≤ L.length ∧ v = .int .i64 i ∧ pget L k = pget (L.drop i) k ∧ w = wr) (fun v _ => L.length - (intOf v).toNat)
  case atStart => exact ⟨0, by omega, rfl, rfl, rfl⟩
  case round =>
    obtain ⟨i, hi, rfl, hn, rfl⟩ := hrel
    have HN := Lib.hid hn
    clear hn
    by_cases hlt : i < L.length
    · obtain ⟨bq, off, rfl, _, _, d0, d1, _⟩ := h.pair_at i hlt
      have hdr : L.drop i = L[i] :: L.drop (i + 1) := List.drop_eq_getElem_cons hlt
      obtain ⟨x, hx⟩ : ∃ z, z = L[i] := ⟨_, rfl⟩
      rw [← hx] at d0 d1 hdr
      obtain ⟨j, n⟩ := x
      dsimp only at d0 d1
      have HD := Lib.hid hdr
      clear hdr hx
      by_cases he : j = k
      · have b1 : (j == k) = true := by simp [he]
        have HE := Lib.hid he
        clear he
        go_wp2_with fail
        go_ret
        exact ⟨by rw [hasB, HN.out, HD.out, pget, if_pos HE.out]; rfl, rfl⟩
      · have b1 : (j == k) = false := by simp [he]
        have HE := Lib.hid he
        clear he
        go_wp2_with fail
        go_roundw
        case rel => exact ⟨i + 1, by omega, by go_num, by rw [HN.out, HD.out, pget, if_neg HE.out], by first | rfl | trivial⟩
        case measure => exact meas_lt (by omega)
    · obtain rfl : i = L.length := by omega
      go_wp2_with fail
      go_ret
      exact ⟨by rw [hasB, HN.out, List.drop_length]; rfl, rfl⟩

theorem ref05_Parent (F : Nat → Prop) (w : World) (q : Option Addr) (c : Nat) (L : TRows) (k : Int) (h : SlR (pairRp .i64) F w q c L) (hL : L.length ≤ 100000) :
    Calls Tryd.prog 41 #[.slice q L.length c, .int .i64 k] w fun e w' => e = .returned (.int .i64 ((pget L k).getD 0)) ∧ w = w' := by
  go_enter Tryd.func41, Tryd.ntmps41
  go_wp2_with fail
  go_loopw [5] (fun v wr => ∃ i : Nat, i ≤ L.length ∧ v = .int .i64 i ∧ pget L k = pget (L.drop i) k ∧ w = wr) (fun v _ => L.length - (intOf v).toNat)
  case atStart => exact ⟨0, by omega, rfl, rfl, rfl⟩
  case round =>
    obtain ⟨i, hi, rfl, hn, rfl⟩ := hrel
    have HN := Lib.hid hn
    clear hn
    by_cases hlt : i < L.length
    · obtain ⟨bq, off, rfl, _, _, d0, d1, _⟩ := h.pair_at i hlt
      have hdr : L.drop i = L[i] :: L.drop (i + 1) := List.drop_eq_getElem_cons hlt
      obtain ⟨x, hx⟩ : ∃ z, z = L[i] := ⟨_, rfl⟩
      rw [← hx] at d0 d1 hdr
      obtain ⟨j, n⟩ := x
      dsimp only at d0 d1
      have HD := Lib.hid hdr
      clear hdr hx
      by_cases he : j = k
      · have b1 : (j == k) = true := by simp [he]
        have HE := Lib.hid he
        clear he
        go_wp2_with fail
        go_ret
        exact ⟨by rw [HN.out, HD.out, pget, if_pos HE.out]; rfl, rfl⟩
      · have b1 : (j == k) = false := by simp [he]
        have HE := Lib.hid he
        clear he
        go_wp2_with fail
        go_roundw
        case rel => exact ⟨i + 1, by omega, by go_num, by rw [HN.out, HD.out, pget, if_neg HE.out], by first | rfl | trivial⟩
        case measure => exact meas_lt (by omega)
    · obtain rfl : i = L.length := by omega
      go_wp2_with fail
      go_ret
      exact ⟨by rw [HN.out, List.drop_length]; rfl, rfl⟩
end Go.Proofs.YtinjbonodlkafaaDoor

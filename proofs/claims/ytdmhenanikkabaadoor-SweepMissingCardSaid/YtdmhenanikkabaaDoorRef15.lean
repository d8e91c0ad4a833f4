/- The document's answer for layer 15 (tally): Of, Set. -/
import Derived.Test.YtdmhenanikkabaaDoorTallyAll
set_option linter.unusedVariables false
set_option linter.unusedSimpArgs false
namespace Go.Proofs.YtdmhenanikkabaaDoor
open Go Go.RowKit

theorem ref15_Of (F : Nat → Prop) (w : World) (q : Option Addr) (c : Nat) (L : Rows) (k : Int) (h : SlR (pairRp .i64) F w q c L) (hL : L.length ≤ 100000) :
    Calls Tryd.prog 9 #[.slice q L.length c, .int .i64 k] w fun e w' => e = .returned (.int .i64 (cnt L k)) ∧ w = w' := by
  go_enter Tryd.func9, Tryd.ntmps9
  go_wp2_with fail
  go_loopw [5] (fun v wr => ∃ i : Nat, i ≤ L.length ∧ v = .int .i64 i ∧ cnt L k = cnt (L.drop i) k ∧ w = wr) (fun v _ => L.length - (intOf v).toNat)
  case atStart => exact ⟨0, by omega, rfl, rfl, rfl⟩
  case round =>
    obtain ⟨i, hi, rfl, hn, rfl⟩ := hrel
    have HN := Lib.hid hn
    clear hn
    by_cases hlt : i < L.length
    · obtain ⟨bq, off, rfl, _, _, d0, d1, _⟩ := h.pair_at i hlt
      have hdr : L.drop i = L[i] :: L.drop (i + 1) := List.drop_eq_getElem_cons hlt
      obtain ⟨x, hx⟩ : ∃ z, z = L[i] := ⟨_, rfl⟩
      rw [← hx] at d0 d1 hdr
      obtain ⟨j, n⟩ := x
      dsimp only at d0 d1
      have HD := Lib.hid hdr
      clear hdr hx
      by_cases he : j = k
      · have b1 : (j == k) = true := by simp [he]
        have HE := Lib.hid he
        clear he
        go_wp2_with fail
        go_ret
        exact ⟨by rw [HN.out, HD.out, cnt, if_pos HE.out]; rfl, rfl⟩
      · have b1 : (j == k) = false := by simp [he]
        have HE := Lib.hid he
        clear he
        go_wp2_with fail
        go_roundw
        case rel => exact ⟨i + 1, by omega, by go_num, by rw [HN.out, HD.out, cnt, if_neg HE.out], by first | rfl | trivial⟩
        case measure => exact meas_lt (by omega)
    · obtain rfl : i = L.length := by omega
      go_wp2_with fail
      go_ret
      exact ⟨by rw [HN.out, List.drop_length]; rfl, rfl⟩
end Go.Proofs.YtdmhenanikkabaaDoor

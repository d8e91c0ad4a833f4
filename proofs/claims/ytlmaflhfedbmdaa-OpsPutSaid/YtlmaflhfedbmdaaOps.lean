/- Package ops and its reference: what each call does. -/
import Derived.Test.YtlmaflhfedbmdaaKit
import Derived.Test.YtlmaflhfedbmdaaOpsPure
import Derived.Laws.BytesArg
import Derived.StillTailTactics
import Derived.Deep.RegionWith
set_option linter.unusedVariables false
set_option linter.unusedSimpArgs false
namespace Go.Proofs.Ytlmaflhfedbmdaa
open Go Go.RowKit

/-- A string of bytes. -/
abbrev str (l : List Int) : Value := .string (strOfNums l)
theorem str_append (a b : List Int) : strOfNums a ++ strOfNums b = strOfNums (a ++ b) := by
  unfold strOfNums
  apply ByteArray.ext
  simp

theorem underU8 : Try.prog.underlying 5 = some (.int .u8) := Try.underlying5

/-- A list of bytes, converted. -/
theorem conv_sl {F : Nat → Prop} {w : World} {a : Option Addr} {c : Nat} {l : List Int} (h : SlR (intRp .u8) F w a c l) : (convert 47 9 (.slice a l.length c)).run Try.prog w = .ok (str l) w := by
  cases a with
  | none =>
    have hc := h.nil rfl
    have hl := h.le
    obtain rfl : l = [] := List.eq_nil_of_length_eq_zero (by omega)
    rw [run_convert_bytes_nil w 47 5 Try.underlying47 underU8 _ _ _ Try.underlying9]
    rfl
  | some ad =>
    by_cases hl : l = []
    · subst hl
      show (convert _ _ (.slice (some ad) 0 c)).run _ _ = _
      rw [run_convert_bytes_string w 47 9 5 (some ad) 0 c Try.underlying47 underU8 Try.underlying9, run_bytesToString w ad 0 c [] (by simp [loadCells, loadCellsFrom])]
      rfl
    · obtain ⟨b, off, ha, _, _, hr⟩ := h.rd hl
      cases ha
      refine run_convert_bytes_arg w 47 5 Try.underlying47 underU8 b off l.length c l rfl (fun i hi => ?_) _ Try.underlying9
      obtain ⟨es, hc, he, _⟩ := hr i hi
      subst he
      have := hc 0 _ rfl
      simp only [intRp, flat, Nat.mul_one, Nat.add_zero] at this
      rw [this]
      simp [List.getD_eq_getElem?_getD, hi]

/-- One byte, just laid, converted. -/
theorem conv_new (w : World) (x : Int) (T : TypeId) (hx : 0 ≤ x ∧ x ≤ 255) : (convert 47 9 (.slice (some ⟨w.heap.size, 0, none⟩) 1 1)).run Try.prog (w.alloc (.cells #[.int .u8 x] T)) = .ok (str [x]) (w.alloc (.cells #[.int .u8 x] T)) := by
  refine run_convert_bytes_arg _ 47 5 Try.underlying47 underU8 w.heap.size 0 1 1 [x] rfl (fun i hi => ?_) _ Try.underlying9
  obtain rfl : i = 0 := by omega
  rw [World.cell?_alloc_new]
  rfl

/-- An operation in memory. -/
def opRp : Rp OpV := flat 4 (fun o => [.int .i64 o.kind, .int .u64 o.a, .int .u64 o.b, .int .u64 o.c]) (fun _ => rfl) (by intro x u hu; simp at hu; rcases hu with rfl | rfl | rfl | rfl <;> rfl) OpV.wf

theorem SlR.op_at {F : Nat → Prop} {w : World} {a : Option Addr} {c : Nat} {l : List OpV} (h : SlR opRp F w a c l) (i : Nat) (hi : i < l.length) :
    ∃ b off, a = some ⟨b, off, none⟩ ∧ ¬ F b ∧ b < w.heap.size ∧ w.cell? ⟨b, off + i * 4, none⟩ = some (.int .i64 l[i].kind) ∧ w.cell? ⟨b, off + i * 4 + 1, none⟩ = some (.int .u64 l[i].a) ∧ w.cell? ⟨b, off + i * 4 + 2, none⟩ = some (.int .u64 l[i].b) ∧ w.cell? ⟨b, off + i * 4 + 3, none⟩ = some (.int .u64 l[i].c) ∧ l[i].wf := by
  obtain ⟨b, off, ha, hb, hlt, es, hc, he, hw⟩ := h.at_ i hi
  subst he
  exact ⟨b, off, ha, hb, hlt, hc 0 _ rfl, hc 1 _ rfl, hc 2 _ rfl, hc 3 _ rfl, hw⟩

set_option maxRecDepth 100000 in
set_option maxHeartbeats 2000000 in
theorem ref21_number (n : Int) (w : World) (hn : U64 n) :
    Calls Try.prog 42 #[.int .u64 n] w fun e w' => e = .returned (str (leOf 8 n)) ∧ Ch No w w' := by
  obtain ⟨h0, h1⟩ := U64.bd hn
  go_enter Try.func42, Try.ntmps42
  go_wp2
  go_loopw [0, 3, 4] (fun q s i wr => ∃ k : Nat, k ≤ 8 ∧ i = .int .i64 k ∧ q = .int .u64 (n / 256 ^ k) ∧ s = str ((leOf 8 n).take k) ∧ Ch No w wr) (fun _ _ i _ => 8 - (intOf i).toNat)
  case atStart => exact ⟨0, by omega, rfl, by simp, rfl, Ch.refl _ _⟩
  case round =>
    obtain ⟨k, hk, rfl, rfl, rfl, hc⟩ := hrel
    have hp : (0 : Int) < 256 ^ k := Int.pow_pos (by omega)
    have q0 : 0 ≤ n / 256 ^ k := Int.ediv_nonneg h0 (by omega)
    have q1 : n / 256 ^ k ≤ 18446744073709551615 := Int.le_trans (Int.ediv_le_self _ h0) h1
    by_cases hlt : k < 8
    · obtain ⟨q, hq⟩ : ∃ q, q = n / 256 ^ k := ⟨_, rfl⟩
      rw [← hq] at q0 q1 ⊢
      have HQ := Lib.hid hq; clear hq hp
      have hcv := conv_new wr (q % 256) 5 ⟨by omega, by omega⟩
      have hz1 : (strOfNums ((leOf 8 n).take k)).size ≤ 8 := by rw [strOfNums_size, List.length_take, leOf_length]; omega
      have hz2 : (strOfNums [q % 256]).size ≤ 1 := by rw [strOfNums_size]; exact Nat.le_refl _
      go_wp2_with fail
      go_roundw
      case rel =>
        refine ⟨k + 1, by omega, by go_num, ?_, ?_, hc.alloc _⟩
        · rw [HQ.out, Int.pow_succ, Int.ediv_ediv_of_nonneg (by have := Int.pow_pos (n := 256) (m := k) (by omega); omega)]
        · rw [str_append]
          have e := leOf_get 8 k n hlt
          have hlen : k < (leOf 8 n).length := by rw [leOf_length]; exact hlt
          rw [List.getElem?_eq_getElem hlen] at e
          rw [List.take_succ_eq_append_getElem hlen, Option.some.inj e, HQ.out]
      case measure => exact meas_lt (by omega)
    · obtain rfl : k = 8 := by omega
      go_wp2_with fail
      go_ret
      exact ⟨by simp [List.take_of_length_le, leOf_length], hc⟩
end Go.Proofs.Ytlmaflhfedbmdaa

/- Package ops: Put. -/
import Derived.Test.YtlmaflhfedbmdaaOps
set_option linter.unusedVariables false
set_option linter.unusedSimpArgs false
namespace Go.Proofs.Ytlmaflhfedbmdaa
open Go Go.RowKit

theorem infoU8 : (Try.prog.info? 5).map (fun i => (i.zero, i.size, i.bytes)) = some (some (.int .u8 0), 1, 1) := by kernel_rfl

/-- The three numbers of an operation. -/
def opNum (o : OpV) : Nat → Int
  | 0 => o.a
  | 1 => o.b
  | _ => o.c
def opPart (o : OpV) : Nat → List Int
  | 0 => []
  | 1 => leOf 8 o.a
  | 2 => leOf 8 o.a ++ leOf 8 o.b
  | _ => leOf 8 o.a ++ (leOf 8 o.b ++ leOf 8 o.c)
theorem opPart_succ (o : OpV) : ∀ j, j < 3 → opPart o (j + 1) = opPart o j ++ leOf 8 (opNum o j)
  | 0, _ => rfl
  | 1, _ => rfl
  | 2, _ => by simp [opPart, opNum]
theorem opPart_length (o : OpV) (j : Nat) : (opPart o j).length ≤ 24 := by
  match j with
  | 0 => simp [opPart]
  | 1 => simp [opPart, leOf_length]
  | 2 => simp [opPart, leOf_length]
  | j + 3 => simp [opPart, leOf_length]
theorem opPart_byte (o : OpV) (j : Nat) : ∀ x ∈ opPart o j, 0 ≤ x ∧ x ≤ 255 := by
  intro x hx
  match j, hx with
  | 0, hx => simp [opPart] at hx
  | 1, hx => exact leOf_byte _ _ _ hx
  | 2, hx => rcases List.mem_append.1 hx with h | h <;> exact leOf_byte _ _ _ h
  | j + 3, hx =>
    rcases List.mem_append.1 hx with h | h
    · exact leOf_byte _ _ _ h
    · rcases List.mem_append.1 h with h | h <;> exact leOf_byte _ _ _ h

set_option maxRecDepth 100000 in
set_option maxHeartbeats 8000000 in
theorem ops_Put (F : Nat → Prop) (w : World) (a : Option Addr) (c : Nat) (l : List OpV) (h : SlR opRp F w a c l) (hl : l.length ≤ 1000) (hF : ∀ k, F k → k < w.heap.size) :
    Calls Try.prog 21 #[.slice a l.length c] w fun e w' => ∃ v, e = .returned (.tuple #[v, .int .i64 (putE l)]) ∧ OwnR (intRp .u8) w.heap.size 5 F w' v (putL l) ∧ Ch No w w' := by
  go_enter Try.func21, Try.ntmps21
  go_wp2
  go_loopw [4, 12] (fun v i wr => ∃ k : Nat, k ≤ l.length ∧ i = .int .i64 k ∧ OwnR (intRp .u8) w.heap.size 5 F wr v ((l.take k).flatMap opBytes) ∧ opsOk (l.take k) = true ∧ Ch No w wr) (fun _ i _ => l.length - (intOf i).toNat)
  case atStart => exact ⟨0, by omega, rfl, OwnR.nilR _ _ _ _ _, rfl, Ch.refl _ _⟩
  case round =>
    obtain ⟨k, hk, rfl, hown, hok, hc⟩ := hrel
    by_cases hlt : k < l.length
    · obtain ⟨b, off, rfl, _, _, c0, c1, c2, c3, hwf⟩ := (h.ch0 hc).op_at k hlt
      obtain ⟨o, ho⟩ : ∃ o, o = l[k] := ⟨_, rfl⟩
      rw [← ho] at c0 c1 c2 c3 hwf
      obtain ⟨⟨k0, k1⟩, ha, hb, hcc⟩ := hwf
      have HO := Lib.hid ho; clear ho
      have HOK := Lib.hid hok; clear hok
      have hkl : l[k] = o := HO.out.symm
      have HKL := Lib.hid hkl; clear hkl
      by_cases hlo : o.kind < 0
      · go_wp2_with fail
        go_ret2
        obtain ⟨e1, e2⟩ := putL_bad (opsOk_bad hlt (by rw [HKL.out]; omega))
        rw [e1, e2]
        exact ⟨_, rfl, OwnR.nilR _ _ _ _ _, hc.alloc _⟩
      · by_cases hhi : o.kind > 255
        · go_wp2_with fail
          go_ret2
          obtain ⟨e1, e2⟩ := putL_bad (opsOk_bad hlt (by rw [HKL.out]; omega))
          rw [e1, e2]
          exact ⟨_, rfl, OwnR.nilR _ _ _ _ _, hc.alloc _⟩
        · have hkind : 0 ≤ o.kind ∧ o.kind ≤ 255 := by omega
          have hsz := hc.size
          have hfl : ((l.take k).flatMap opBytes).length ≤ 25 * 1000 := by rw [flat_length, List.length_take]; omega
          have hown' := hown.ch0 (w' := wr.alloc (.cells #[.int .i64 o.kind, .int .u64 o.a, .int .u64 o.b, .int .u64 o.c] 92)) ((Ch.refl _ _).alloc _)
          go_wp2_with (at_builtin; (refine wpL_push rfl _ _ _ rfl w.heap.size 5 (.int .u8 0) 1 1 Try.underlying47 infoU8 rfl (by decide) (intRp .u8) rfl F u4 _ rfl hown' [.int .u8 o.kind] _ o.kind 1 (by go_simp) ⟨rfl, hkind⟩ hF (by omega) (by omega) (by simp; omega) ?_); intro v1 w1 ho1 hg1 hgw1; have hne : ¬ (u4.ownBlock = some wr.heap.size) := (fun hh => by have := (hown.blk _ hh).2; omega); have d1 : w1.cell? ⟨wr.heap.size, 1, none⟩ = some (.int .u64 o.a) := hgw1.cell (by simp) hne; have d2 : w1.cell? ⟨wr.heap.size, 2, none⟩ = some (.int .u64 o.b) := hgw1.cell (by simp) hne; have d3 : w1.cell? ⟨wr.heap.size, 3, none⟩ = some (.int .u64 o.c) := hgw1.cell (by simp) hne)
          have hc1 : Ch No w w1 := hg1 _ _ (Nat.le_refl _) (hc.alloc _)
          obtain ⟨p1, hp1⟩ : ∃ z, z = (l.take k).flatMap opBytes ++ [o.kind] := ⟨_, rfl⟩
          rw [← hp1] at ho1
          have hl1 : p1.length ≤ 25 * 1000 + 1 := by rw [hp1, List.length_append]; simp only [List.length_cons, List.length_nil]; omega
          have HP := Lib.hid hp1; clear hp1
          go_loopw [4, 37] (fun v i wq => ∃ j : Nat, j ≤ 3 ∧ i = .int .i64 j ∧ OwnR (intRp .u8) w.heap.size 5 F wq v (p1 ++ opPart o j) ∧ Ch No w wq) (fun _ i _ => 3 - (intOf i).toNat)
          case atStart => exact ⟨0, by omega, rfl, by simpa [opPart] using ho1, hc1⟩
          case round =>
            obtain ⟨j, hj, rfl, hoj, hcj⟩ := hrel
            by_cases hj3 : j < 3
            · have hb3 : decide ((j : Int) < 3) = true := by simp; omega
              have hx : ∀ W, (Instr.index 93 (.agg #[.int .u64 o.a, .int .u64 o.b, .int .u64 o.c]) (.int .i64 (j : Int))).run Try.prog W = .ok (.int .u64 (opNum o j)) W := by
                intro W
                refine index_arr W Try.underlying93 Try.underlying23 rfl (by kernel_rfl) _ _ j hj3 _ ?_
                match j, hj3 with
                | 0, _ => rfl
                | 1, _ => rfl
                | 2, _ => rfl
              have hx0 : 0 ≤ opNum o j ∧ opNum o j ≤ 18446744073709551615 := by
                match j, hj3 with
                | 0, _ => exact ha
                | 1, _ => exact hb
                | 2, _ => exact hcc
              obtain ⟨x, hxx⟩ : ∃ x, x = opNum o j := ⟨_, rfl⟩
              rw [← hxx] at hx hx0
              have HXX := Lib.hid hxx; clear hxx
              obtain ⟨hx1, hx2⟩ := hx0
              have hpl := opPart_length o j
              obtain ⟨p2, hp2⟩ : ∃ z, z = p1 ++ opPart o j := ⟨_, rfl⟩
              rw [← hp2] at hoj
              have hl2 : p2.length ≤ 25 * 1000 + 25 := by rw [hp2, List.length_append]; omega
              have HP2 := Lib.hid hp2; clear hp2
              go_wp2_with fail
              go_loopw [4, 40] (fun v i wq => ∃ m : Nat, m ≤ 8 ∧ i = .int .i64 m ∧ OwnR (intRp .u8) w.heap.size 5 F wq v (p2 ++ (leOf 8 x).take m) ∧ Ch No w wq) (fun _ i _ => 8 - (intOf i).toNat)
              case atStart => exact ⟨0, by omega, rfl, by simpa using hoj, hcj⟩
              case round =>
                obtain ⟨m, hm, rfl, hom, hcm⟩ := hrel
                by_cases hm8 : m < 8
                · have hsm := hcm.size
                  have hyb : 0 ≤ x / 2 ^ (8 * m) % 256 ∧ x / 2 ^ (8 * m) % 256 ≤ 255 := by omega
                  have hlm : (p2 ++ (leOf 8 x).take m).length ≤ 25 * 1000 + 33 := by rw [List.length_append, List.length_take, leOf_length]; omega
                  go_wp2_with (at_builtin; refine wpL_push rfl _ _ _ rfl w.heap.size 5 (.int .u8 0) 1 1 Try.underlying47 infoU8 rfl (by decide) (intRp .u8) rfl F u4 _ rfl hom [.int .u8 (x / 2 ^ (8 * m) % 256)] _ (x / 2 ^ (8 * m) % 256) 1 rfl ⟨rfl, hyb⟩ hF (by omega) (by omega) (by omega) ?_; intro v2 w2 ho2 hg2 _)
                  go_roundw
                  case rel =>
                    refine ⟨m + 1, by omega, by go_num, ?_, hg2 _ _ (Nat.le_refl _) hcm⟩
                    have e := leOf_get 8 m x hm8
                    have hlen : m < (leOf 8 x).length := by rw [leOf_length]; exact hm8
                    rw [List.getElem?_eq_getElem hlen] at e
                    rw [List.take_succ_eq_append_getElem hlen, Option.some.inj e, ← List.append_assoc, show (256 : Int) ^ m = 2 ^ (8 * m) by rw [Int.pow_mul, show (2 : Int) ^ 8 = 256 by decide]]
                    exact ho2
                  case measure => exact meas_lt (by omega)
                · obtain rfl : m = 8 := by omega
                  go_wp2_with fail
                  go_roundw
                  case rel =>
                    refine ⟨j + 1, by omega, by go_num, ?_, hcm⟩
                    rw [opPart_succ o j hj3, ← List.append_assoc, ← HP2.out, ← HXX.out]
                    rw [List.take_of_length_le (by rw [leOf_length]; omega)] at hom
                    exact hom
                  case measure => exact meas_lt (by omega)
            · obtain rfl : j = 3 := by omega
              go_wp2_with fail
              go_roundw
              case rel =>
                refine ⟨k + 1, by omega, by go_num, ?_, opsOk_succ hlt HOK.out (by rw [HKL.out]; exact hkind), hcj⟩
                rw [List.take_succ_eq_append_getElem hlt, List.flatMap_append, HKL.out, List.flatMap_cons, List.flatMap_nil, List.append_nil]
                have e : opBytes o = [o.kind] ++ opPart o 3 := rfl
                rw [e, ← List.append_assoc, ← HP.out]
                exact hoj
              case measure => exact meas_lt (by omega)
    · obtain rfl : k = l.length := by omega
      go_wp2_with fail
      go_ret2
      rw [List.take_length] at hown hok
      obtain ⟨e1, e2⟩ := putL_ok hok
      rw [e1, e2]
      exact ⟨_, rfl, hown, hc⟩
end Go.Proofs.Ytlmaflhfedbmdaa

/- Layer 21: the chapter's example, and OpsNames' walk. -/
import Derived.Test.YtlmaflhfedbmdaaOpsPut
import Derived.Test.YtlmaflhfedbmdaaOpsNames
set_option linter.unusedVariables false
set_option linter.unusedSimpArgs false
namespace Go.Proofs.Ytlmaflhfedbmdaa
open Go Go.RowKit

def freeOp : OpV := ⟨15, 0, 0, 0⟩
theorem putFree : putL [freeOp] = 15 :: List.replicate 24 0 ∧ putE [freeOp] = 0 := ⟨rfl, rfl⟩

/-- A slice of one element, just laid. -/
theorem SlR.lit1 {α : Type} {e : Rp α} {F : Nat → Prop} {w : World} {cs : List Value} {T : TypeId} {x : α} (h : e.R F w cs x) (hF : ∀ k, F k → k < w.heap.size) : SlR e F (w.alloc (.cells cs.toArray T)) (some ⟨w.heap.size, 0, none⟩) 1 [x] := by
  refine ⟨by simp, by decide, fun h => by simp at h, fun _ => ⟨w.heap.size, 0, rfl, fun hf => by have := hF _ hf; omega, by simp, fun i hi => ?_⟩⟩
  obtain rfl : i = 0 := by simpa using hi
  have hc : Ch No w (w.alloc (.cells cs.toArray T)) := (Ch.refl _ _).alloc _
  refine ⟨cs, fun j u hj => ?_, e.tr h (fun k hk hn => hc.block k hk (fun q => q)) hc.size (fun k hk => .inl hk)⟩
  rw [show 0 + 0 * e.n + j = j by omega, World.cell?_alloc_new]
  simpa using hj

set_option maxRecDepth 100000 in
set_option maxHeartbeats 2000000 in
theorem fixed21 (w : World) : Calls Try.prog 20 #[] w fun e w' => e = .returned (.bool true) ∧ Ch No w w' := by
  have hs : SlR opRp No (w.alloc (.cells #[.int .i64 15, .int .u64 0, .int .u64 0, .int .u64 0] 92)) (some ⟨w.heap.size, 0, none⟩) 1 [freeOp] :=
    SlR.lit1 (cs := [.int .i64 15, .int .u64 0, .int .u64 0, .int .u64 0]) ⟨rfl, by simp [OpV.wf, freeOp]⟩ (fun _ q => q.elim)
  have hp := ops_Put No (w.alloc (.cells #[.int .i64 15, .int .u64 0, .int .u64 0, .int .u64 0] 92)) _ _ [freeOp] hs (by decide) (fun _ q => q.elim)
  rw [putFree.1, putFree.2] at hp
  simp only [List.length_cons, List.length_nil, Nat.zero_add] at hp
  go_enter Try.func20, Try.ntmps20
  go_wp2_with fail
  refine hp.mono ?_
  clear hp
  rintro e w1 ⟨v, rfl, ho, hc⟩
  obtain ⟨g, cap, rfl, _, _, _, hcell, _⟩ := ho.int_form (by decide)
  have c0 : w1.cell? ⟨g, 0, none⟩ = some (.int .u8 15) := hcell 0 (by decide)
  have c24 : w1.cell? ⟨g, 24, none⟩ = some (.int .u8 0) := hcell 24 (by decide)
  clear hcell ho hs
  have e25 : (15 :: List.replicate 24 (0 : Int)).length = 25 := rfl
  rw [e25]
  clear e25
  go_wp2_with fail
  go_ret
  exact ⟨rfl, ((Ch.refl _ _).alloc _).trans hc⟩

/-- The fifteen names. -/
theorem ref21_Names (w : World) : Calls Try.prog 26 #[] w fun e w' => ∃ g, e = .returned (.slice (some ⟨g, 0, none⟩) 15 15) ∧ w.heap.size ≤ g ∧ (∀ i, i < 15 → w'.cell? ⟨g, i, none⟩ = some (.string (tabAt (i + 1)))) ∧ Ch No w w' := by
  go_enter Try.func26, Try.ntmps26
  go_wp2_with fail
  go_ret
  refine ⟨w.heap.size, rfl, Nat.le_refl _, fun i hi => ?_, (Ch.refl _ _).alloc _⟩
  rw [World.cell?_alloc_new]
  match i, hi with
  | 0, _ => rfl
  | 1, _ => rfl
  | 2, _ => rfl
  | 3, _ => rfl
  | 4, _ => rfl
  | 5, _ => rfl
  | 6, _ => rfl
  | 7, _ => rfl
  | 8, _ => rfl
  | 9, _ => rfl
  | 10, _ => rfl
  | 11, _ => rfl
  | 12, _ => rfl
  | 13, _ => rfl
  | 14, _ => rfl

def tabB (i : Nat) : List Nat := (tabAt i).data.toList.map (·.toNat)
theorem tab_inj : ∀ i, 1 ≤ i → i ≤ 15 → ∀ j, 1 ≤ j → j ≤ 15 → tabAt i = tabAt j → i = j := by
  have h : ((List.range 16).all fun i => (List.range 16).all fun j => i == j || i == 0 || j == 0 || !(tabB i == tabB j)) = true := by decide +kernel
  intro i h1 h2 j h3 h4 e
  have := List.all_eq_true.1 (List.all_eq_true.1 h i (List.mem_range.2 (by omega))) j (List.mem_range.2 (by omega))
  simp only [Bool.or_eq_true, beq_iff_eq, Bool.not_eq_true'] at this
  rcases this with ((h | h) | h) | h
  · exact h
  · omega
  · omega
  · unfold tabB at h; rw [e] at h; simp at h
theorem tab_ne_empty : ∀ i, 1 ≤ i → i ≤ 15 → tabAt i ≠ ⟨#[]⟩ := by
  have h : ((List.range 16).all fun i => i == 0 || !(tabB i == [])) = true := by decide +kernel
  intro i h1 h2 e
  have := List.all_eq_true.1 h i (List.mem_range.2 (by omega))
  simp only [Bool.or_eq_true, beq_iff_eq, Bool.not_eq_true'] at this
  rcases this with h | h
  · omega
  · unfold tabB at h; rw [e] at h; simp at h
theorem kindTo_spec (s : ByteArray) : ∀ n, 0 < kindTo s n → 1 ≤ kindTo s n ∧ tabAt (kindTo s n) = s
  | 0, h => by simp [kindTo] at h
  | n + 1, h => by
    unfold kindTo at h ⊢
    split
    · rename_i hn; exact ⟨by omega, hn.2⟩
    · rename_i hn; rw [if_neg hn] at h; exact kindTo_spec s n h
theorem kindOf_tab (i : Nat) (h1 : 1 ≤ i) (h2 : i ≤ 15) : kindOf (tabAt i) = i := by
  unfold kindOf
  by_cases h0 : kindTo (tabAt i) 15 = 0
  · exact absurd rfl (kindTo_zero _ 15 h0 i h1 h2)
  · obtain ⟨h3, h4⟩ := kindTo_spec (tabAt i) 15 (by omega)
    exact tab_inj _ h3 (kindTo_le _ _) _ h1 h2 h4
theorem kindOf_empty : kindOf ⟨#[]⟩ = 0 := by
  unfold kindOf
  by_cases h0 : kindTo ⟨#[]⟩ 15 = 0
  · exact h0
  · obtain ⟨h3, h4⟩ := kindTo_spec ⟨#[]⟩ 15 (by omega)
    exact absurd h4 (tab_ne_empty _ h3 (kindTo_le _ _))
/-- What the law's loop knows behind n names. -/
def wantTo (k : Int) (n : Nat) : ByteArray := if 1 ≤ k ∧ k ≤ n then tabAt k.toNat else ⟨#[]⟩

theorem kindTo_succ (s : ByteArray) (n : Nat) (hn : n < 15) : kindTo s (n + 1) = if tabAt (n + 1) = s then n + 1 else kindTo s n := by
  show (if kindTo s n = 0 ∧ tabAt (n + 1) = s then n + 1 else kindTo s n) = _
  by_cases h : tabAt (n + 1) = s
  · rw [if_pos h]
    by_cases h0 : kindTo s n = 0
    · rw [if_pos ⟨h0, h⟩]
    · obtain ⟨h3, h4⟩ := kindTo_spec s n (by omega)
      have := tab_inj _ h3 (by have := kindTo_le s n; omega) _ (by omega) (by omega) (h4.trans h.symm)
      have := kindTo_le s n
      omega
  · rw [if_neg h, if_neg (fun q => h q.2)]

set_option maxRecDepth 100000 in
set_option maxHeartbeats 8000000 in
theorem names21 (w : World) (k : Int) (s : ByteArray) (hk : I64 k) (hs : s.size ≤ 9223372036854775807) :
    Calls Try.prog 7 #[.int .i64 k, .string s] w fun e w' => e = .returned (.bool true) ∧ Ch No w w' := by
  obtain ⟨k0, k1⟩ := I64.bd hk
  by_cases h100 : s.size ≤ 100
  · go_enter Try.func7, Try.ntmps7
    go_wp2_with fail
    refine (ref21_Names w).mono ?_
    rintro e w1 ⟨g, rfl, hg, hcell, hc⟩
    go_wp2_with fail
    go_loopw [5, 6, 19] (fun x y i wr => ∃ j : Nat, j ≤ 15 ∧ i = .int .i64 j ∧ x = .string (wantTo k j) ∧ y = .int .i64 (kindTo s j) ∧ Ch No w1 wr) (fun _ _ i _ => 15 - (intOf i).toNat)
    case atStart =>
      refine ⟨0, by omega, rfl, ?_, rfl, Ch.refl _ _⟩
      unfold wantTo; rw [if_neg (by omega)]
    case round =>
      obtain ⟨j, hj, rfl, rfl, rfl, hcj⟩ := hrel
      by_cases hlt : j < 15
      · have c1 := hcj.cell (hcell j hlt) (fun q => q)
        have hb : decide ((j : Int) < 15) = true := by simp; omega
        have hks := kindTo_succ s j hlt
        have HKS := Lib.hid hks; clear hks
        by_cases hkj : k = (j : Int) + 1
        · have hb1 : (k == (j : Int) + 1) = true := by simpa using hkj
          have hw : wantTo k (j + 1) = tabAt (j + 1) := by
            unfold wantTo; rw [if_pos (by omega)]; congr 1; omega
          have HW := Lib.hid hw; clear hw hkj
          by_cases hst : tabAt (j + 1) = s
          · have hb2 := str_eq_t hst.symm
            have HST := Lib.hid hst; clear hst
            go_wp2_with fail
            go_roundw
            case rel => exact ⟨j + 1, by omega, by go_num, by rw [HW.out], by rw [HKS.out, if_pos HST.out]; go_num, hcj⟩
            case measure => exact meas_lt (by omega)
          · have hb2 := str_eq_f (fun h => hst h.symm)
            have HST := Lib.hid hst; clear hst
            go_wp2_with fail
            go_roundw
            case rel => exact ⟨j + 1, by omega, by go_num, by rw [HW.out], by rw [HKS.out, if_neg HST.out], hcj⟩
            case measure => exact meas_lt (by omega)
        · have hb1 : (k == (j : Int) + 1) = false := by simpa using hkj
          have hw : wantTo k (j + 1) = wantTo k j := by
            unfold wantTo
            by_cases h : 1 ≤ k ∧ k ≤ j
            · rw [if_pos (by omega), if_pos h]
            · rw [if_neg (by omega), if_neg h]
          have HW := Lib.hid hw; clear hw hkj
          by_cases hst : tabAt (j + 1) = s
          · have hb2 := str_eq_t hst.symm
            have HST := Lib.hid hst; clear hst
            go_wp2_with fail
            go_roundw
            case rel => exact ⟨j + 1, by omega, by go_num, by rw [HW.out], by rw [HKS.out, if_pos HST.out]; go_num, hcj⟩
            case measure => exact meas_lt (by omega)
          · have hb2 := str_eq_f (fun h => hst h.symm)
            have HST := Lib.hid hst; clear hst
            go_wp2_with fail
            go_roundw
            case rel => exact ⟨j + 1, by omega, by go_num, by rw [HW.out], by rw [HKS.out, if_neg HST.out], hcj⟩
            case measure => exact meas_lt (by omega)
      · obtain rfl : j = 15 := by omega
        clear hlt hj
        have hwn : wantTo k 15 = nameOf k := rfl
        rw [hwn]
        have hkn : kindTo s 15 = kindOf s := rfl
        rw [hkn]
        clear hwn hkn
        go_wp2_with fail
        refine (ops_Kind wr s).mono ?_
        rintro e w2 ⟨rfl, hc2⟩
        go_wp2_with fail
        refine (ops_Name w2 k).mono ?_
        rintro e w3 ⟨rfl, hc3⟩
        go_wp2_with fail
        refine (ops_Kind w3 (nameOf k)).mono ?_
        rintro e w4 ⟨rfl, hc4⟩
        go_wp2_with fail
        refine (fixed21 w4).mono ?_
        rintro e w5 ⟨rfl, hc5⟩
        go_wp2_with fail
        refine (ops_Name w5 k).mono ?_
        rintro e w6 ⟨rfl, hc6⟩
        have hfin : Ch No w w6 := hc.trans (hcj.trans (hc2.trans (hc3.trans (hc4.trans (hc5.trans hc6)))))
        have hge : (0 : Int) ≤ (kindOf s : Int) := by omega
        by_cases hin : 1 ≤ k ∧ k ≤ 15
        · have e1 : nameOf k = tabAt k.toNat := if_pos hin
          have e2 : kindOf (nameOf k) = k.toNat := by rw [e1]; exact kindOf_tab _ (by omega) (by omega)
          have hb3 := str_eq_f (tab_ne_empty k.toNat (by omega) (by omega))
          rw [e2, e1]
          have hk' : ((k.toNat : Nat) : Int) = k := by omega
          rw [hk']
          have hd : decide (0 < k.toNat) = true := by simp; omega
          rw [hd]
          have hE : (tabAt k.toNat).toList.isEmpty = false := by
            rw [List.isEmpty_eq_false_iff]
            intro h
            exact tab_ne_empty k.toNat (by omega) (by omega) (bytes_ext (by rw [h, ByteArray.toList_eq]))
          clear e1 e2 hk' hd hb3
          dsimp only
          clear hcell hge hin hk
          go_wp2_with fail
          go_ret
          exact ⟨rfl, hfin⟩
        · have e1 : nameOf k = ⟨#[]⟩ := if_neg hin
          rw [e1, kindOf_empty, show ((0 : Nat) : Int) = 0 from rfl, show decide (0 < 0) = false from rfl]
          clear e1
          dsimp only
          clear hcell hge hin hk
          go_wp2_with fail
          go_ret
          exact ⟨rfl, hfin⟩
  · go_enter Try.func7, Try.ntmps7
    go_wp2_with fail
    refine (fixed21 _).mono ?_
    rintro e w5 ⟨rfl, hc5⟩
    go_wp2_with fail
    go_ret
    exact ⟨rfl, hc5⟩
end Go.Proofs.Ytlmaflhfedbmdaa

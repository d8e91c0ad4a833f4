/- The document's answer for layer 5 (tree): Add. -/
import Derived.Test.YtinjbonodlkafaaDoorRef05c
set_option linter.unusedVariables false
set_option linter.unusedSimpArgs false
namespace Go.Proofs.YtinjbonodlkafaaDoor
open Go Go.RowKit

theorem SlR.dropT {α : Type} {e : Rp α} {F : Nat → Prop} {w : World} {b off c : Nat} {l : List α} (h : SlR e F w (some ⟨b, off, none⟩) c l) (k : Nat) (hk : k ≤ l.length) : SlR e F w (some ⟨b, off + k * e.n, none⟩) (c - k) (l.drop k) := by
  have h1 := h.le
  have h2 := h.max
  refine ⟨by rw [List.length_drop]; omega, by omega, fun q => (by cases q), fun hl => ?_⟩
  have hl' : k < l.length := by
    rcases Nat.lt_or_ge k l.length with q | q
    · exact q
    · exact absurd (List.drop_eq_nil_of_le q) hl
  obtain ⟨b', off', ha, hb, hlt, hr⟩ := h.rd (by intro e; rw [e] at hl'; simp at hl')
  cases ha
  refine ⟨b, _, rfl, hb, hlt, fun i hi => ?_⟩
  rw [List.length_drop] at hi
  have := hr (k + i) (by omega)
  rw [Nat.add_mul, ← Nat.add_assoc] at this
  rw [List.getElem_drop]
  exact this

/-- How far the row goes below k. -/
theorem take_stop {L : TRows} {k : Int} {i : Nat} (hi : i ≤ L.length) (h1 : ∀ x ∈ L.take i, x.1 < k) (h2 : ∀ h : i < L.length, ¬ L[i].1 < k) : L.takeWhile (fun x => decide (x.1 < k)) = L.take i ∧ L.dropWhile (fun x => decide (x.1 < k)) = L.drop i := by
  induction L generalizing i with
  | nil => simp
  | cons y r ih =>
    cases i with
    | zero =>
      have := h2 (by simp)
      simp only [List.getElem_cons_zero] at this
      rw [List.takeWhile_cons, List.dropWhile_cons]
      simp [this]
    | succ i =>
      have hy := h1 y (by simp)
      obtain ⟨a, b⟩ := ih (i := i) (by simpa using hi) (fun x hx => h1 x (by simp [hx])) (fun h => by have := h2 (by simpa using h); simpa using this)
      rw [List.takeWhile_cons, List.dropWhile_cons]
      simp [hy, a, b]

set_option maxRecDepth 100000 in
set_option maxHeartbeats 1000000 in
theorem ref05_Add (F : Nat → Prop) (w : World) (b off c : Nat) (L : TRows) (k p : Int) (h : SlR (pairRp .i64) F w (some ⟨b, off, none⟩) c L) (ik : I64 k) (ip : I64 p) (hL : L.length ≤ 100000) (hF : ∀ k, F k → k < w.heap.size) :
    Calls Tryd.prog 21 #[.slice (some ⟨b, off, none⟩) L.length c, .int .i64 k, .int .i64 p] w fun e w' => ∃ b' off' c', e = .returned (.tuple #[.slice (some ⟨b', off', none⟩) (tPut L k p).1.length c', .int .i64 (tPut L k p).2]) ∧ SlR (pairRp .i64) F w' (some ⟨b', off', none⟩) c' (tPut L k p).1 ∧ Ch No w w' := by
  have hha := ref05_Has F w _ c L k h hL
  have hhp := ref05_Has F w _ c L p h hL
  by_cases h1 : k < 1
  · have b1 : decide (k < 1) = true := decide_eq_true h1
    rw [show tPut L k p = (L, 1) from by unfold tPut; rw [if_pos (.inl h1)]]
    clear h1
    go_enter Tryd.func21, Tryd.ntmps21
    go_wp2_with fail
    go_ret2
    exact ⟨b, off, c, rfl, h, Ch.refl _ _⟩
  have b1 : decide (k < 1) = false := decide_eq_false h1
  cases ea : hasB L k with
  | true =>
    rw [ea] at hha
    rw [show tPut L k p = (L, 1) from by unfold tPut; rw [if_pos (.inr ea)]]
    clear h1 ea
    go_enter Tryd.func21, Tryd.ntmps21
    go_wp2_with fail
    with_reducible refine hha.mono ?_
    rintro e w1 ⟨rfl, rfl⟩
    dsimp only
    go_wp2_with fail
    go_ret2
    exact ⟨b, off, c, rfl, h, Ch.refl _ _⟩
  | false =>
    rw [ea] at hha
    have hno : ¬ (k < 1 ∨ hasB L k = true) := by rw [ea]; rintro (z | z); exact h1 z; cases z
    by_cases hbad : p ≠ 0 ∧ hasB L p = false
    · rw [hbad.2] at hhp
      have b2 : (p != 0) = true := by simp [hbad.1]
      rw [show tPut L k p = (L, 2) from by unfold tPut; rw [if_neg hno, if_pos hbad]]
      clear h1 ea hno hbad
      go_enter Tryd.func21, Tryd.ntmps21
      go_wp2_with fail
      with_reducible refine hha.mono ?_
      rintro e w1 ⟨rfl, rfl⟩
      dsimp only
      go_wp2_with fail
      with_reducible refine hhp.mono ?_
      rintro e w1 ⟨rfl, rfl⟩
      dsimp only
      go_wp2_with fail
      go_ret2
      exact ⟨b, off, c, rfl, h, Ch.refl _ _⟩
    · rw [show tPut L k p = (addRow L k p, 0) from by unfold tPut; rw [if_neg hno, if_neg hbad]]
      have key : ((p != 0) = false) ∨ ((p != 0) = true ∧ hasB L p = true) := by
        by_cases hp : p = 0
        · exact .inl (by simp [hp])
        · refine .inr ⟨by simp [hp], ?_⟩
          cases e : hasB L p with
          | true => rfl
          | false => exact absurd ⟨hp, e⟩ hbad
      have hal := add_length L k p
      obtain ⟨hp, hhp'⟩ : ∃ z, z = hasB L p := ⟨_, rfl⟩
      rw [← hhp'] at key hhp
      obtain ⟨B, hB⟩ : ∃ z, z = w.heap.size := ⟨_, rfl⟩
      have hl0 := h.more (F' := fun k => B ≤ k) (fun k q => .inr (by omega))
      have HB := Lib.hid hB
      have hAdef : addRow L k p = L.takeWhile (fun x => decide (x.1 < k)) ++ (k, p) :: L.dropWhile (fun x => decide (x.1 < k)) := rfl
      obtain ⟨A, hA⟩ : ∃ z, z = addRow L k p := ⟨_, rfl⟩
      rw [← hA] at hAdef hal ⊢
      have HA := Lib.hid hAdef
      have HAL := Lib.hid hal
      clear h1 ea hno hbad hhp' hB hA hAdef hal
      rcases key with b2 | ⟨b2, rfl⟩
      all_goals
        go_enter Tryd.func21, Tryd.ntmps21
        go_wp2_with fail
        with_reducible refine hha.mono ?_
        rintro e w1 ⟨rfl, rfl⟩
        dsimp only
        go_wp2_with fail
        try (with_reducible refine hhp.mono ?_; rintro e w1 ⟨rfl, rfl⟩; dsimp only; go_wp2_with fail)
        go_loopw [8, 9] (fun v u wq => ∃ (i : Nat), i ≤ L.length ∧ u = .int .i64 i ∧ OwnR (pairRp .i64) B 68 F wq v (L.take i) ∧ (∀ x ∈ L.take i, x.1 < k) ∧ B ≤ wq.heap.size ∧ SlR (pairRp .i64) (fun k => B ≤ k) wq (some ⟨b, off, none⟩) c L ∧ Ch No w wq) (fun _ u _ => L.length - (intOf u).toNat)
        case atStart => exact ⟨0, by omega, rfl, OwnR.lit0 (by have := HB.out; omega), by simp, by have := HB.out; simp; omega, hl0.ch0 ((Ch.refl _ _).alloc _), (Ch.refl _ _).alloc _⟩
        case round =>
          obtain ⟨i, hi, rfl, ho, hlow, hBr, hsl, hC⟩ := hrel
          have hhF : ∀ k, F k → k < B := fun k q => by have := hF k q; have := HB.out; omega
          have htl : (L.take i).length = i := by rw [List.length_take]; omega
          by_cases hgo : ∃ h : i < L.length, L[i].1 < k
          · obtain ⟨hlt, hlk⟩ := hgo
            obtain ⟨bq, off', hbo, _, _, d0, d1, hxI⟩ := hsl.pair_at i hlt
            cases hbo
            have hkt : L.take (i + 1) = L.take i ++ [L[i]] := List.take_succ_eq_append_getElem hlt
            obtain ⟨x, hx⟩ : ∃ z, z = L[i] := ⟨_, rfl⟩
            rw [← hx] at d0 d1 hxI hkt hlk
            obtain ⟨j, u⟩ := x
            dsimp only at d0 d1 hxI hlk
            have b3 : decide (j < k) = true := decide_eq_true hlk
            have HK := Lib.hid hkt
            have HT := Lib.hid htl
            have HLO := Lib.hid hlow
            have HLK := Lib.hid hlk
            clear hkt hx htl hlow hlk
            go_wp2_with (at_builtin; go_loud (refine wpL_push rfl _ _ _ rfl B 68 (.agg #[.int .i64 0, .int .i64 0]) 2 16 Tryd.underlying25 infoRow5 rfl (by decide) (pairRp .i64) rfl F _ _ rfl ho [.int .i64 j, .int .i64 u] _ (j, u) 1 (by go_simp) ⟨rfl, hxI⟩ hhF (by have := HT.out; omega) (by have := HT.out; omega) hBr ?_); intro v9 w9 ho9 hg9 hk9)
            go_roundw
            case rel =>
              refine ⟨i + 1, by omega, by go_num, by rw [HK.out]; exact ho9, ?_, by have := hk9.size; omega, hsl.ch hk9 (fun k z => (ho.blk _ z).1), hg9 No w (by have := HB.out; omega) hC⟩
              rw [HK.out]
              intro x hx
              rcases List.mem_append.1 hx with hx | hx
              · exact HLO.out x hx
              · rw [List.mem_singleton.1 hx]; exact HLK.out
            case measure => exact meas_lt (by omega)
          · obtain ⟨s1, s2⟩ := take_stop hi hlow (fun hh e => hgo ⟨hh, e⟩)
            have hAA := HA.out
            rw [s1, s2] at hAA
            have hcle := h.le
            obtain ⟨a8, c8, hv8, _⟩ := ho.sl hhF
            rw [htl] at hv8
            subst hv8
            have HT := Lib.hid htl
            have HAA := Lib.hid hAA
            have hside := fun (v : Value) (hv : ∀ k, v.ownBlock = some k → B ≤ k) => h.beside v (fun k hk => by have := hv k hk; have := HB.out; omega)
            have hdl : (L.drop i).length = L.length - i := List.length_drop
            by_cases hci : c = i
            · have b4 : decide ((i : Int) < (L.length : Int)) = false := decide_eq_false (by omega)
              have hlt : ¬ i < L.length := by omega
              have hlt2 : ¬ i < L.length := hlt
              have hnil : L.drop i = [] := List.drop_eq_nil_of_le (by omega)
              clear hgo s1 s2 hAA htl hlow hlt2
              go_wp2_with (first
                | (have _q := ho8; at_builtin; go_loud (refine wpL_appendR rfl _ _ _ rfl B 68 (.agg #[.int .i64 0, .int .i64 0]) 2 16 Tryd.underlying25 infoRow5 rfl (by decide) (pairRp .i64) rfl F _ (L.take i ++ [(k, p)]) rfl ho8 (some ⟨b, off, none⟩) 0 (L.drop i) (by rw [hdl]; rfl) (by rw [hnil]; exact ⟨Nat.zero_le _, Nat.zero_le _, fun q => (by cases q), fun hh => absurd rfl hh⟩) (by rw [hdl, List.length_append, HT.out, List.length_singleton]; omega) (by rw [hdl, List.length_append, HT.out, List.length_singleton]; omega) (by have := hk8.size; omega) ?_); intro v9 w9 ho9 hg9 hk9)
                | (at_builtin; go_loud (refine wpL_push rfl _ _ _ rfl B 68 (.agg #[.int .i64 0, .int .i64 0]) 2 16 Tryd.underlying25 infoRow5 rfl (by decide) (pairRp .i64) rfl F _ _ rfl ho [.int .i64 k, .int .i64 p] _ (k, p) 1 (by go_simp) ⟨rfl, ik, ip⟩ hhF (by have := HT.out; omega) (by have := HT.out; omega) hBr ?_); intro v8 w8 ho8 hg8 hk8))
              go_ret2
              have hAe : (L.take i ++ [(k, p)]) ++ L.drop i = A := by rw [HAA.out]; simp
              rw [hAe] at ho9
              obtain ⟨a9, c9, hv9, hs9⟩ := ho9.sl hhF
              obtain ⟨b9, o9, ha9, _⟩ := hs9.pair_at 0 (by rw [HAL.out]; omega)
              subst ha9
              exact ⟨b9, o9, c9, by rw [hv9]; rfl, hs9, hg9 No w (by have := HB.out; omega) (hg8 No w (by have := HB.out; omega) hC)⟩
            · by_cases hlt : i < L.length
              · obtain ⟨bq, off', hbo, _, _, d0, d1, hxI⟩ := hsl.pair_at i hlt
                cases hbo
                have hnk : ¬ L[i].1 < k := fun e => hgo ⟨hlt, e⟩
                obtain ⟨x, hx⟩ : ∃ z, z = L[i] := ⟨_, rfl⟩
                rw [← hx] at d0 d1 hxI hnk
                obtain ⟨j, u⟩ := x
                dsimp only at d0 d1 hxI hnk
                have b3 : decide (j < k) = false := decide_eq_false hnk
                clear hgo hx hnk s1 s2 hAA htl hlow
                go_wp2_with (first
                  | (have _q := ho8; at_builtin; go_loud (refine wpL_appendR rfl _ _ _ rfl B 68 (.agg #[.int .i64 0, .int .i64 0]) 2 16 Tryd.underlying25 infoRow5 rfl (by decide) (pairRp .i64) rfl F _ (L.take i ++ [(k, p)]) rfl ho8 (some ⟨b, off + i * 2, none⟩) (c - i) (L.drop i) (by rw [hdl]; rfl) (((hside _ (fun k z => (ho8.blk _ z).1)).ch0 (hg8 No w (by have := HB.out; omega) hC)).dropT i hi) (by rw [hdl, List.length_append, HT.out, List.length_singleton]; omega) (by rw [hdl, List.length_append, HT.out, List.length_singleton]; omega) (by have := hk8.size; omega) ?_); intro v9 w9 ho9 hg9 hk9)
                  | (at_builtin; go_loud (refine wpL_push rfl _ _ _ rfl B 68 (.agg #[.int .i64 0, .int .i64 0]) 2 16 Tryd.underlying25 infoRow5 rfl (by decide) (pairRp .i64) rfl F _ _ rfl ho [.int .i64 k, .int .i64 p] _ (k, p) 1 (by go_simp) ⟨rfl, ik, ip⟩ hhF (by have := HT.out; omega) (by have := HT.out; omega) hBr ?_); intro v8 w8 ho8 hg8 hk8))
                go_ret2
                have hAe : (L.take i ++ [(k, p)]) ++ L.drop i = A := by rw [HAA.out]; simp
                rw [hAe] at ho9
                obtain ⟨a9, c9, hv9, hs9⟩ := ho9.sl hhF
                obtain ⟨b9, o9, ha9, _⟩ := hs9.pair_at 0 (by rw [HAL.out]; omega)
                subst ha9
                exact ⟨b9, o9, c9, by rw [hv9]; rfl, hs9, hg9 No w (by have := HB.out; omega) (hg8 No w (by have := HB.out; omega) hC)⟩
              · have b4 : decide ((i : Int) < (L.length : Int)) = false := decide_eq_false (by omega)
                have hlt2 : ¬ i < L.length := hlt
                clear hgo s1 s2 hAA htl hlow hlt2
                go_wp2_with (first
                  | (have _q := ho8; at_builtin; go_loud (refine wpL_appendR rfl _ _ _ rfl B 68 (.agg #[.int .i64 0, .int .i64 0]) 2 16 Tryd.underlying25 infoRow5 rfl (by decide) (pairRp .i64) rfl F _ (L.take i ++ [(k, p)]) rfl ho8 (some ⟨b, off + i * 2, none⟩) (c - i) (L.drop i) (by rw [hdl]; rfl) (((hside _ (fun k z => (ho8.blk _ z).1)).ch0 (hg8 No w (by have := HB.out; omega) hC)).dropT i hi) (by rw [hdl, List.length_append, HT.out, List.length_singleton]; omega) (by rw [hdl, List.length_append, HT.out, List.length_singleton]; omega) (by have := hk8.size; omega) ?_); intro v9 w9 ho9 hg9 hk9)
                  | (at_builtin; go_loud (refine wpL_push rfl _ _ _ rfl B 68 (.agg #[.int .i64 0, .int .i64 0]) 2 16 Tryd.underlying25 infoRow5 rfl (by decide) (pairRp .i64) rfl F _ _ rfl ho [.int .i64 k, .int .i64 p] _ (k, p) 1 (by go_simp) ⟨rfl, ik, ip⟩ hhF (by have := HT.out; omega) (by have := HT.out; omega) hBr ?_); intro v8 w8 ho8 hg8 hk8))
                go_ret2
                have hAe : (L.take i ++ [(k, p)]) ++ L.drop i = A := by rw [HAA.out]; simp
                rw [hAe] at ho9
                obtain ⟨a9, c9, hv9, hs9⟩ := ho9.sl hhF
                obtain ⟨b9, o9, ha9, _⟩ := hs9.pair_at 0 (by rw [HAL.out]; omega)
                subst ha9
                exact ⟨b9, o9, c9, by rw [hv9]; rfl, hs9, hg9 No w (by have := HB.out; omega) (hg8 No w (by have := HB.out; omega) hC)⟩
end Go.Proofs.YtinjbonodlkafaaDoor

/- Layer 14 (annot): what a kind is; Check, Counts; the document's Check. -/
import Derived.Test.YtinjbonodlkafaaDoorTreeWithin
import Derived.Test.YtinjbonodlkafaaDoorRef05b
import Derived.Laws.EntriesVeiled
set_option linter.unusedVariables false
set_option linter.unusedSimpArgs false
namespace Go.Proofs.YtinjbonodlkafaaDoor
open Go Go.RowKit

/-- The variable 'what' holds what its initialiser lays. -/
structure Wt (w : World) : Prop where
  c0 : w.cell? ⟨0, 0, none⟩ = some (.int .i64 0)
  c1 : w.cell? ⟨0, 1, none⟩ = some (.int .i64 1)
  c2 : w.cell? ⟨0, 2, none⟩ = some (.int .i64 1)
  c3 : w.cell? ⟨0, 3, none⟩ = some (.int .i64 1)
theorem Wt.ch {w w' : World} {F : Nat → Prop} (h : Wt w) (hc : Ch F w w') (hF : ¬ F 0) : Wt w' := ⟨hc.cell h.c0 hF, hc.cell h.c1 hF, hc.cell h.c2 hF, hc.cell h.c3 hF⟩
theorem Wt.ch0 {w w' : World} (h : Wt w) (hc : Ch No w w') : Wt w' := h.ch hc (fun q => q)
theorem Wt.lt {w : World} (h : Wt w) : 0 < w.heap.size := World.block_lt_of_cell? w _ h.c0

def whatOf (k : Int) : Int := if k < 0 ∨ 4 ≤ k then 2 else if k = 0 then 0 else 1
theorem desc_of (w : World) (k : Int) (h : Wt w) (ik : I64 k) :
    Calls Tryd.prog 35 #[.int .i64 k] w fun e w' => e = .returned (.int .i64 (whatOf k)) ∧ w = w' := by
  obtain ⟨c0, c1, c2, c3⟩ := h
  unfold whatOf
  by_cases h1 : k < 0
  · have b1 : decide (k < 0) = true := decide_eq_true h1
    rw [if_pos (.inl h1)]
    clear h1 c0 c1 c2 c3
    go_enter Tryd.func35, Tryd.ntmps35
    go_wp2_with fail
    go_ret
    exact ⟨rfl, rfl⟩
  by_cases h2 : 4 ≤ k
  · have b1 : decide (k < 0) = false := decide_eq_false h1
    have b2 : decide (k ≥ 4) = true := decide_eq_true h2
    rw [if_pos (.inr h2)]
    clear h1 h2 c0 c1 c2 c3
    go_enter Tryd.func35, Tryd.ntmps35
    go_wp2_with fail
    go_ret
    exact ⟨rfl, rfl⟩
  have hk : k = 0 ∨ k = 1 ∨ k = 2 ∨ k = 3 := by omega
  rcases hk with rfl | rfl | rfl | rfl
  · rw [if_neg (by decide), if_pos rfl]
    clear c1 c2 c3 h1 h2
    go_enter Tryd.func35, Tryd.ntmps35
    go_wp2_with fail
    go_ret
    exact ⟨rfl, rfl⟩
  · rw [if_neg (by decide), if_neg (by decide)]
    clear c0 c2 c3 h1 h2
    go_enter Tryd.func35, Tryd.ntmps35
    go_wp2_with fail
    go_ret
    exact ⟨rfl, rfl⟩
  · rw [if_neg (by decide), if_neg (by decide)]
    clear c0 c1 c3 h1 h2
    go_enter Tryd.func35, Tryd.ntmps35
    go_wp2_with fail
    go_ret
    exact ⟨rfl, rfl⟩
  · rw [if_neg (by decide), if_neg (by decide)]
    clear c0 c1 c2 h1 h2
    go_enter Tryd.func35, Tryd.ntmps35
    go_wp2_with fail
    go_ret
    exact ⟨rfl, rfl⟩

def isPtr (k : Int) : Bool := decide (1 ≤ k) && decide (k ≤ 3)
theorem isPtr_eq (k : Int) : (whatOf k == 1) = isPtr k := by
  rw [Bool.eq_iff_iff]
  unfold whatOf isPtr
  simp only [beq_iff_eq, Bool.and_eq_true, decide_eq_true_eq]
  split
  · constructor <;> intro z <;> omega
  · split
    · constructor <;> intro z <;> omega
    · constructor <;> intro z <;> omega
theorem desc_Pointer (w : World) (k : Int) (h : Wt w) (ik : I64 k) :
    Calls Tryd.prog 24 #[.int .i64 k] w fun e w' => e = .returned (.bool (isPtr k)) ∧ w = w' := by
  have hof := desc_of w k h ik
  have he := isPtr_eq k
  obtain ⟨v, hv⟩ : ∃ z, z = whatOf k := ⟨_, rfl⟩
  rw [← hv] at hof he
  have HE := Lib.hid he
  clear he hv
  go_enter Tryd.func24, Tryd.ntmps24
  go_wp2_with fail
  with_reducible refine hof.mono ?_
  rintro e w1 ⟨rfl, rfl⟩
  dsimp only
  go_wp2_with fail
  go_ret
  exact ⟨by rw [← HE.out]; rfl, rfl⟩

theorem results_cell1A {fn : Func} {c : Tmp} {T : TypeId} (h : fn.results = #[.cell c T]) (tmps : Array Value) (P : Program) (w : World) {a : Addr} {v : Value} (hc : tmps.getD c undef = .pointer (some a)) (hl : (loadVar T a).run P w = .ok v w) :
    (results fn tmps).run P w = .ok v w := by
  have hc' : tmps[c]?.getD undef = .pointer (some a) := by rw [← Array.getD_eq_getD_getElem?]; exact hc
  simp [results, h, hc', asAddr, hl]
def rulesV : Value := .agg #[.nilFunc, .func (.func 36) #[] #[], .func (.func 37) #[] #[], .func (.func 38) #[] #[]]
theorem annot_rules (w : World) :
    Calls Tryd.prog 26 #[] w fun e w' => e = .returned rulesV ∧ Ch No w w' := by
  go_enter Tryd.func26, Tryd.ntmps26
  go_wp2_with fail
  refine bodyPost_ret (results_cell1A (v := rulesV) rfl _ _ _ (by rfl) (by unfold rulesV; go_simp)) rfl ?_
  exact ⟨rfl, (Ch.refl _ _).alloc _⟩

theorem rule1 (w : World) (t h g : Value) : Calls Tryd.prog 36 #[t, h, g] w fun e w' => e = .returned (.bool true) ∧ w = w' := by
  go_enter Tryd.func36, Tryd.ntmps36
  go_wp2_with fail
  go_ret
  exact ⟨rfl, rfl⟩
theorem rule2 (w : World) (t : Value) (h g : Int) : Calls Tryd.prog 37 #[t, .int .i64 h, .int .i64 g] w fun e w' => e = .returned (.bool (h == g)) ∧ w = w' := by
  go_enter Tryd.func37, Tryd.ntmps37
  go_wp2_with fail
  go_ret
  exact ⟨rfl, rfl⟩
theorem rule3 (w : World) (t m n : Nat) (L : TRows) (a b : Int) (h : TreeAt w t m L) (ok : TreeOk L n) (hl : L.length ≤ 100000) : Calls Tryd.prog 38 #[.pointer (some ⟨t, 0, none⟩), .int .i64 a, .int .i64 b] w fun e w' => e = .returned (.bool (inB L a b)) ∧ Ch No w w' := by
  have hw := tree_Within w t m n L a b h ok hl
  go_enter Tryd.func38, Tryd.ntmps38
  go_wp2_with fail
  with_reducible refine hw.mono ?_
  rintro e w1 ⟨rfl, hc⟩
  dsimp only
  go_wp2_with fail
  go_ret
  exact ⟨rfl, hc⟩

theorem index_arrS {P : Program} {t e : TypeId} {n : Nat} {fs : Array Field} (w : World) (h : P.underlying t = some (.array n e)) (he : P.underlying e = some (.struct fs)) (hsz : (P.info? e).map (·.size) = some 1)
    (cs : Array Value) (k : IntKind) (i : Nat) (hi : i < n) (v : Value) (hv : cs.extract i (i + 1) = #[v]) : (Instr.index t (.agg cs) (.int k (i : Int))).run P w = .ok (.agg #[v]) w := by
  obtain ⟨inf, hinf, hs⟩ := Option.map_eq_some_iff.1 hsz
  simp [Instr.index, asIntOf, run_underlying h, sizeOf, typeInfo, hinf, hs, part, isAgg, run_underlying he]
  rw [if_pos hi, hv]
theorem rules_at (w : World) : (Instr.index 62 (.agg #[.nilFunc, .func (.func 36) #[] #[], .func (.func 37) #[] #[], .func (.func 38) #[] #[]]) (.int .i64 1)).run Tryd.prog w = .ok (.agg #[.func (.func 36) #[] #[]]) w ∧
    (Instr.index 62 (.agg #[.nilFunc, .func (.func 36) #[] #[], .func (.func 37) #[] #[], .func (.func 38) #[] #[]]) (.int .i64 2)).run Tryd.prog w = .ok (.agg #[.func (.func 37) #[] #[]]) w ∧
    (Instr.index 62 (.agg #[.nilFunc, .func (.func 36) #[] #[], .func (.func 37) #[] #[], .func (.func 38) #[] #[]]) (.int .i64 3)).run Tryd.prog w = .ok (.agg #[.func (.func 38) #[] #[]]) w :=
  ⟨index_arrS w Tryd.underlying62 Tryd.underlying61 (by kernel_rfl) _ _ 1 (by omega) _ (by simp), index_arrS w Tryd.underlying62 Tryd.underlying61 (by kernel_rfl) _ _ 2 (by omega) _ (by simp), index_arrS w Tryd.underlying62 Tryd.underlying61 (by kernel_rfl) _ _ 3 (by omega) _ (by simp)⟩

theorem rule_field (w : World) (f : FuncId) : (Instr.field 61 (.agg #[.func (.func f) #[] #[]]) 0).run Tryd.prog w = .ok (.func (.func f) #[] #[]) w := by
  have h := Tryd.underlying61
  have he := Tryd.underlying59
  simp [Instr.field, run_underlying h, part, asAgg, isAgg, run_underlying he]

/-- May it point there? -/
def chk (L : TRows) (kind h g : Int) : Int := if isPtr kind = false then 4 else if g = 0 then 0 else if hasB L h = false ∨ hasB L g = false then 2 else if kind = 2 ∧ h ≠ g ∨ kind = 3 ∧ inB L h g = false then 5 else 0

theorem isPtr_cases {k : Int} (h : isPtr k = true) : k = 1 ∨ k = 2 ∨ k = 3 := by
  unfold isPtr at h
  simp at h
  omega

theorem annot_Check_nil (w : World) (kind a b : Int) :
    Calls Tryd.prog 10 #[.pointer none, .int .i64 kind, .int .i64 a, .int .i64 b] w fun e w' => e = .returned (.int .i64 1) ∧ w = w' := by
  go_enter Tryd.func10, Tryd.ntmps10
  go_wp2_with fail
  go_ret
  exact ⟨rfl, rfl⟩

set_option maxRecDepth 100000 in
theorem annot_Check (w : World) (t m n : Nat) (L : TRows) (kind a b : Int) (h : TreeAt w t m L) (ok : TreeOk L n) (hl : L.length ≤ 100000) (hw : Wt w) (ik : I64 kind) :
    Calls Tryd.prog 10 #[.pointer (some ⟨t, 0, none⟩), .int .i64 kind, .int .i64 a, .int .i64 b] w fun e w' => e = .returned (.int .i64 (chk L kind a b)) ∧ Ch No w w' := by
  have hp := desc_Pointer w kind hw ik
  unfold chk
  cases ep : isPtr kind with
  | false =>
    rw [ep] at hp
    rw [if_pos rfl]
    clear ep
    go_enter Tryd.func10, Tryd.ntmps10
    go_wp2_with fail
    with_reducible refine hp.mono ?_
    rintro e w1 ⟨rfl, rfl⟩
    dsimp only
    go_wp2_with fail
    go_ret
    exact ⟨rfl, Ch.refl _ _⟩
  | true =>
    rw [ep] at hp
    rw [if_neg (by simp)]
    have hk3 := isPtr_cases ep
    clear ep
    by_cases hb0 : b = 0
    · have b1 : (b == 0) = true := by simp [hb0]
      rw [if_pos hb0]
      clear hb0 hk3
      go_enter Tryd.func10, Tryd.ntmps10
      go_wp2_with fail
      with_reducible refine hp.mono ?_
      rintro e w1 ⟨rfl, rfl⟩
      dsimp only
      go_wp2_with fail
      go_ret
      exact ⟨rfl, Ch.refl _ _⟩
    · have b1 : (b == 0) = false := by simp [hb0]
      rw [if_neg hb0]
      have ha := tree_Has w t m L a h
      have hb := tree_Has w t m L b h
      clear hb0
      cases ea : hasB L a with
      | false =>
        rw [ea] at ha
        rw [if_pos (.inl rfl)]
        clear ea hk3
        go_enter Tryd.func10, Tryd.ntmps10
        go_wp2_with fail
        with_reducible refine hp.mono ?_
        rintro e w1 ⟨rfl, rfl⟩
        dsimp only
        go_wp2_with fail
        with_reducible refine ha.mono ?_
        rintro e w1 ⟨rfl, rfl⟩
        dsimp only
        go_wp2_with fail
        go_ret
        exact ⟨rfl, Ch.refl _ _⟩
      | true =>
        rw [ea] at ha
        cases eb : hasB L b with
        | false =>
          rw [eb] at hb
          rw [if_pos (.inr rfl)]
          clear ea eb hk3
          go_enter Tryd.func10, Tryd.ntmps10
          go_wp2_with fail
          with_reducible refine hp.mono ?_
          rintro e w1 ⟨rfl, rfl⟩
          dsimp only
          go_wp2_with fail
          with_reducible refine ha.mono ?_
          rintro e w1 ⟨rfl, rfl⟩
          dsimp only
          go_wp2_with fail
          with_reducible refine hb.mono ?_
          rintro e w1 ⟨rfl, rfl⟩
          dsimp only
          go_wp2_with fail
          go_ret
          exact ⟨rfl, Ch.refl _ _⟩
        | true =>
          rw [eb] at hb
          rw [if_neg (by simp)]
          have hr := annot_rules w
          clear ea eb
          rcases hk3 with rfl | rfl | rfl
          · rw [if_neg (by simp)]
            have hr1 := fun W => rule1 W (.pointer (some ⟨t, 0, none⟩)) (.int .i64 a) (.int .i64 b)
            go_enter Tryd.func10, Tryd.ntmps10
            go_wp2_with fail
            with_reducible refine hp.mono ?_
            rintro e w1 ⟨rfl, rfl⟩
            dsimp only
            go_wp2_with fail
            with_reducible refine ha.mono ?_
            rintro e w1 ⟨rfl, rfl⟩
            dsimp only
            go_wp2_with fail
            with_reducible refine hb.mono ?_
            rintro e w1 ⟨rfl, rfl⟩
            dsimp only
            go_wp2_with fail
            with_reducible refine hr.mono ?_
            rintro e w2 ⟨rfl, hc2⟩
            obtain ⟨x1, x2, x3⟩ := rules_at w2
            have x4 := rule_field w2
            dsimp only [rulesV]
            go_wp2_with fail
            with_reducible refine (hr1 w2).mono ?_
            rintro e w3 ⟨rfl, rfl⟩
            dsimp only
            go_wp2_with fail
            go_ret
            exact ⟨rfl, hc2⟩
          · have hr1 := fun W => rule2 W (.pointer (some ⟨t, 0, none⟩)) a b
            by_cases hab : a = b
            · have b2 : (a == b) = true := by simp [hab]
              simp only [b2] at hr1
              rw [if_neg (by simp [hab])]
              clear hab b2
              go_enter Tryd.func10, Tryd.ntmps10
              go_wp2_with fail
              with_reducible refine hp.mono ?_
              rintro e w1 ⟨rfl, rfl⟩
              dsimp only
              go_wp2_with fail
              with_reducible refine ha.mono ?_
              rintro e w1 ⟨rfl, rfl⟩
              dsimp only
              go_wp2_with fail
              with_reducible refine hb.mono ?_
              rintro e w1 ⟨rfl, rfl⟩
              dsimp only
              go_wp2_with fail
              with_reducible refine hr.mono ?_
              rintro e w2 ⟨rfl, hc2⟩
              obtain ⟨x1, x2, x3⟩ := rules_at w2
              have x4 := rule_field w2
              dsimp only [rulesV]
              go_wp2_with fail
              with_reducible refine (hr1 w2).mono ?_
              rintro e w3 ⟨rfl, rfl⟩
              dsimp only
              go_wp2_with fail
              go_ret
              exact ⟨rfl, hc2⟩
            · have b2 : (a == b) = false := by simp [hab]
              simp only [b2] at hr1
              rw [if_pos (.inl ⟨rfl, hab⟩)]
              clear hab b2
              go_enter Tryd.func10, Tryd.ntmps10
              go_wp2_with fail
              with_reducible refine hp.mono ?_
              rintro e w1 ⟨rfl, rfl⟩
              dsimp only
              go_wp2_with fail
              with_reducible refine ha.mono ?_
              rintro e w1 ⟨rfl, rfl⟩
              dsimp only
              go_wp2_with fail
              with_reducible refine hb.mono ?_
              rintro e w1 ⟨rfl, rfl⟩
              dsimp only
              go_wp2_with fail
              with_reducible refine hr.mono ?_
              rintro e w2 ⟨rfl, hc2⟩
              obtain ⟨x1, x2, x3⟩ := rules_at w2
              have x4 := rule_field w2
              dsimp only [rulesV]
              go_wp2_with fail
              with_reducible refine (hr1 w2).mono ?_
              rintro e w3 ⟨rfl, rfl⟩
              dsimp only
              go_wp2_with fail
              go_ret
              exact ⟨rfl, hc2⟩
          · have hr1 := fun W (hW : TreeAt W t m L) => rule3 W t m n L a b hW ok hl
            cases hi : inB L a b with
            | true =>
              simp only [hi] at hr1
              rw [if_neg (by simp)]
              clear hi
              go_enter Tryd.func10, Tryd.ntmps10
              go_wp2_with fail
              with_reducible refine hp.mono ?_
              rintro e w1 ⟨rfl, rfl⟩
              dsimp only
              go_wp2_with fail
              with_reducible refine ha.mono ?_
              rintro e w1 ⟨rfl, rfl⟩
              dsimp only
              go_wp2_with fail
              with_reducible refine hb.mono ?_
              rintro e w1 ⟨rfl, rfl⟩
              dsimp only
              go_wp2_with fail
              with_reducible refine hr.mono ?_
              rintro e w2 ⟨rfl, hc2⟩
              obtain ⟨x1, x2, x3⟩ := rules_at w2
              have x4 := rule_field w2
              dsimp only [rulesV]
              go_wp2_with fail
              with_reducible refine (hr1 w2 (h.ch0 hc2)).mono ?_
              rintro e w3 ⟨rfl, hc3⟩
              dsimp only
              go_wp2_with fail
              go_ret
              exact ⟨rfl, hc2.trans hc3⟩
            | false =>
              simp only [hi] at hr1
              rw [if_pos (.inr ⟨rfl, rfl⟩)]
              clear hi
              go_enter Tryd.func10, Tryd.ntmps10
              go_wp2_with fail
              with_reducible refine hp.mono ?_
              rintro e w1 ⟨rfl, rfl⟩
              dsimp only
              go_wp2_with fail
              with_reducible refine ha.mono ?_
              rintro e w1 ⟨rfl, rfl⟩
              dsimp only
              go_wp2_with fail
              with_reducible refine hb.mono ?_
              rintro e w1 ⟨rfl, rfl⟩
              dsimp only
              go_wp2_with fail
              with_reducible refine hr.mono ?_
              rintro e w2 ⟨rfl, hc2⟩
              obtain ⟨x1, x2, x3⟩ := rules_at w2
              have x4 := rule_field w2
              dsimp only [rulesV]
              go_wp2_with fail
              with_reducible refine (hr1 w2 (h.ch0 hc2)).mono ?_
              rintro e w3 ⟨rfl, hc3⟩
              dsimp only
              go_wp2_with fail
              go_ret
              exact ⟨rfl, hc2.trans hc3⟩

theorem annot_Counts (w : World) (kind a b : Int) :
    Calls Tryd.prog 13 #[.int .i64 kind, .int .i64 a, .int .i64 b] w fun e w' => e = .returned (.bool ((kind == 1) && ((b != 0) && (b != a)))) ∧ w = w' := by
  cases e1 : (kind == 1) with
  | false =>
    go_enter Tryd.func13, Tryd.ntmps13
    go_wp2_with fail
    go_ret
    exact ⟨rfl, rfl⟩
  | true =>
    cases e2 : (b != 0) with
    | false =>
      go_enter Tryd.func13, Tryd.ntmps13
      go_wp2_with fail
      go_ret
      exact ⟨rfl, rfl⟩
    | true =>
      go_enter Tryd.func13, Tryd.ntmps13
      go_wp2_with fail
      go_ret
      exact ⟨rfl, rfl⟩
end Go.Proofs.YtinjbonodlkafaaDoor

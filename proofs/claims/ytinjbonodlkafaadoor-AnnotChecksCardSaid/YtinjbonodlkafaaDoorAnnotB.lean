/- Layer 14 (annot): the document's Check, Targets; Targets. -/
import Derived.Test.YtinjbonodlkafaaDoorAnnot
set_option linter.unusedVariables false
set_option linter.unusedSimpArgs false
namespace Go.Proofs.YtinjbonodlkafaaDoor
open Go Go.RowKit

theorem isPtr_false {k : Int} (h : isPtr k = false) : k < 1 ∨ 3 < k := by
  unfold isPtr at h
  simp at h
  omega

set_option maxRecDepth 100000 in
theorem ref14_Check (F : Nat → Prop) (w : World) (q : Option Addr) (c n : Nat) (L : TRows) (kind a b : Int) (h : SlR (pairRp .i64) F w q c L) (ok : TreeOk L n) (hL : L.length ≤ 100000) :
    Calls Tryd.prog 12 #[.slice q L.length c, .int .i64 kind, .int .i64 a, .int .i64 b] w fun e w' => e = .returned (.int .i64 (chk L kind a b)) ∧ w = w' := by
  unfold chk
  cases ep : isPtr kind with
  | false =>
    rw [if_pos rfl]
    rcases isPtr_false ep with h1 | h1
    · have b1 : decide (kind < 1) = true := decide_eq_true h1
      clear h1 ep
      go_enter Tryd.func12, Tryd.ntmps12
      go_wp2_with fail
      go_ret
      exact ⟨rfl, rfl⟩
    · have b1 : decide (kind < 1) = false := decide_eq_false (by omega)
      have b2 : decide (kind > 3) = true := decide_eq_true h1
      clear h1 ep
      go_enter Tryd.func12, Tryd.ntmps12
      go_wp2_with fail
      go_ret
      exact ⟨rfl, rfl⟩
  | true =>
    rw [if_neg (by simp)]
    have hk3 := isPtr_cases ep
    have k1 : decide (kind < 1) = false := decide_eq_false (by omega)
    have k2 : decide (kind > 3) = false := decide_eq_false (by omega)
    clear ep
    by_cases hb0 : b = 0
    · have b1 : (b == 0) = true := by simp [hb0]
      rw [if_pos hb0]
      clear hb0 hk3
      go_enter Tryd.func12, Tryd.ntmps12
      go_wp2_with fail
      go_ret
      exact ⟨rfl, rfl⟩
    · have b1 : (b == 0) = false := by simp [hb0]
      rw [if_neg hb0]
      have ha := ref05_Has F w q c L a h hL
      have hb := ref05_Has F w q c L b h hL
      clear hb0
      cases ea : hasB L a with
      | false =>
        rw [ea] at ha
        rw [if_pos (.inl rfl)]
        clear ea hk3
        go_enter Tryd.func12, Tryd.ntmps12
        go_wp2_with fail
        with_reducible refine ha.mono ?_
        rintro e w1 ⟨rfl, rfl⟩
        dsimp only
        go_wp2_with fail
        go_ret
        exact ⟨rfl, rfl⟩
      | true =>
        rw [ea] at ha
        cases eb : hasB L b with
        | false =>
          rw [eb] at hb
          rw [if_pos (.inr rfl)]
          clear ea eb hk3
          go_enter Tryd.func12, Tryd.ntmps12
          go_wp2_with fail
          with_reducible refine ha.mono ?_
          rintro e w1 ⟨rfl, rfl⟩
          dsimp only
          go_wp2_with fail
          with_reducible refine hb.mono ?_
          rintro e w1 ⟨rfl, rfl⟩
          dsimp only
          go_wp2_with fail
          go_ret
          exact ⟨rfl, rfl⟩
        | true =>
          rw [eb] at hb
          rw [if_neg (by simp)]
          clear ea eb
          rcases hk3 with rfl | rfl | rfl
          · rw [if_neg (by simp)]
            go_enter Tryd.func12, Tryd.ntmps12
            go_wp2_with fail
            with_reducible refine ha.mono ?_
            rintro e w1 ⟨rfl, rfl⟩
            dsimp only
            go_wp2_with fail
            with_reducible refine hb.mono ?_
            rintro e w1 ⟨rfl, rfl⟩
            dsimp only
            go_wp2_with fail
            go_ret
            exact ⟨rfl, rfl⟩
          · by_cases hab : a = b
            · have b2 : (a != b) = false := by simp [hab]
              rw [if_neg (by simp [hab])]
              clear hab
              go_enter Tryd.func12, Tryd.ntmps12
              go_wp2_with fail
              with_reducible refine ha.mono ?_
              rintro e w1 ⟨rfl, rfl⟩
              dsimp only
              go_wp2_with fail
              with_reducible refine hb.mono ?_
              rintro e w1 ⟨rfl, rfl⟩
              dsimp only
              go_wp2_with fail
              go_ret
              exact ⟨rfl, rfl⟩
            · have b2 : (a != b) = true := by simp [hab]
              rw [if_pos (.inl ⟨rfl, hab⟩)]
              clear hab
              go_enter Tryd.func12, Tryd.ntmps12
              go_wp2_with fail
              with_reducible refine ha.mono ?_
              rintro e w1 ⟨rfl, rfl⟩
              dsimp only
              go_wp2_with fail
              with_reducible refine hb.mono ?_
              rintro e w1 ⟨rfl, rfl⟩
              dsimp only
              go_wp2_with fail
              go_ret
              exact ⟨rfl, rfl⟩
          · have hwi := ref05_Within F w q c n L a b h ok hL
            cases hi : inB L a b with
            | true =>
              rw [hi] at hwi
              rw [if_neg (by simp)]
              clear hi
              go_enter Tryd.func12, Tryd.ntmps12
              go_wp2_with fail
              with_reducible refine ha.mono ?_
              rintro e w1 ⟨rfl, rfl⟩
              dsimp only
              go_wp2_with fail
              with_reducible refine hb.mono ?_
              rintro e w1 ⟨rfl, rfl⟩
              dsimp only
              go_wp2_with fail
              with_reducible refine hwi.mono ?_
              rintro e w3 ⟨rfl, rfl⟩
              dsimp only
              go_wp2_with fail
              go_ret
              exact ⟨rfl, rfl⟩
            | false =>
              rw [hi] at hwi
              rw [if_pos (.inr ⟨rfl, rfl⟩)]
              clear hi
              go_enter Tryd.func12, Tryd.ntmps12
              go_wp2_with fail
              with_reducible refine ha.mono ?_
              rintro e w1 ⟨rfl, rfl⟩
              dsimp only
              go_wp2_with fail
              with_reducible refine hb.mono ?_
              rintro e w1 ⟨rfl, rfl⟩
              dsimp only
              go_wp2_with fail
              with_reducible refine hwi.mono ?_
              rintro e w3 ⟨rfl, rfl⟩
              dsimp only
              go_wp2_with fail
              go_ret
              exact ⟨rfl, rfl⟩

/-- Where it may point to. -/
def tg (L : TRows) (kind h : Int) : List Int := (L.map (·.1)).filter fun x => decide (chk L kind h x = 0)
theorem tg_length (L : TRows) (kind h : Int) : (tg L kind h).length ≤ L.length := by
  unfold tg
  have := List.length_filter_le (fun x => decide (chk L kind h x = 0)) (L.map (·.1))
  rwa [List.length_map] at this
theorem map_take {L : TRows} {i : Nat} (h : i < L.length) (f : Int → Bool) : ((L.take (i + 1)).map (·.1)).filter f = ((L.take i).map (·.1)).filter f ++ (if f L[i].1 = true then [L[i].1] else []) := by
  rw [List.take_succ_eq_append_getElem h, List.map_append, List.filter_append]
  congr 1
  by_cases e : f L[i].1 = true
  · simp [e]
  · simp [e]
theorem filter_take {l : List Int} {i : Nat} (h : i < l.length) (f : Int → Bool) : (l.take (i + 1)).filter f = (l.take i).filter f ++ (if f l[i] = true then [l[i]] else []) := by
  rw [List.take_succ_eq_append_getElem h, List.filter_append]
  congr 1
  by_cases e : f l[i] = true
  · simp [e]
  · simp [e]
theorem tg_of {L : TRows} {n : Nat} (ok : TreeOk L n) (kind h : Int) : sorted ((sub L 0).filter fun x => decide (chk L kind h x = 0)) = tg L kind h := by
  refine sorted_eq (List.Pairwise.filter _ (sub_nodup ok 0)) (List.Pairwise.filter _ (List.pairwise_map.2 ok.up)) (fun x => ?_)
  unfold tg
  rw [List.mem_filter, List.mem_filter, mem_walk ok, List.mem_map]
  constructor
  · rintro ⟨⟨p, hp⟩, h2⟩; exact ⟨⟨_, hp, rfl⟩, h2⟩
  · rintro ⟨⟨⟨a, b⟩, h1, rfl⟩, h2⟩; exact ⟨⟨b, h1⟩, h2⟩

set_option maxRecDepth 100000 in
theorem ref14_Targets (F : Nat → Prop) (w : World) (q : Option Addr) (c n : Nat) (L : TRows) (kind k : Int) (h : SlR (pairRp .i64) F w q c L) (ok : TreeOk L n) (hL : L.length ≤ 100000) (hF : ∀ k, F k → k < w.heap.size) :
    Calls Tryd.prog 15 #[.slice q L.length c, .int .i64 kind, .int .i64 k] w fun e w' => ∃ q' c', e = .returned (.slice q' (tg L kind k).length c') ∧ SlR (intRp .i64) F w' q' c' (tg L kind k) ∧ Ch No w w' := by
  obtain ⟨B, hB⟩ : ∃ z, z = w.heap.size := ⟨_, rfl⟩
  have hl0 := h.more (F' := fun k => B ≤ k) (fun k q => .inr (by omega))
  have hck := fun W (hW : SlR (pairRp .i64) (fun k => B ≤ k) W q c L) x => ref14_Check _ W q c n L kind k x hW ok hL
  have HB := Lib.hid hB
  unfold tg
  obtain ⟨f, hf⟩ : ∃ f : Int → Int, f = chk L kind k := ⟨_, rfl⟩
  simp only [← hf] at hck ⊢
  clear hB hf ok
  go_enter Tryd.func15, Tryd.ntmps15
  go_wp2_with fail
  go_loopw [7, 8] (fun v u wq => ∃ (i : Nat), i ≤ L.length ∧ u = .int .i64 i ∧ OwnR (intRp .i64) B 3 F wq v (((L.take i).map (·.1)).filter fun x => decide (f x = 0)) ∧ B ≤ wq.heap.size ∧ SlR (pairRp .i64) (fun k => B ≤ k) wq q c L ∧ Ch No w wq) (fun _ u _ => L.length - (intOf u).toNat)
  case atStart => exact ⟨0, by omega, rfl, OwnR.lit0 (by have := HB.out; omega), by have := HB.out; simp; omega, hl0.ch0 ((Ch.refl _ _).alloc _), (Ch.refl _ _).alloc _⟩
  case round =>
    obtain ⟨i, hi, rfl, ho, hBr, hsl, hC⟩ := hrel
    have hhF : ∀ k, F k → k < B := fun k q => by have := hF k q; have := HB.out; omega
    by_cases hlt : i < L.length
    · obtain ⟨bq, off, rfl, _, _, d0, d1, hxI⟩ := hsl.pair_at i hlt
      have hkt := map_take hlt (fun x => decide (f x = 0))
      have hkl := List.length_filter_le (fun x => decide (f x = 0)) ((L.take i).map (·.1))
      rw [List.length_map] at hkl
      have htl : (L.take i).length ≤ i := by rw [List.length_take]; omega
      obtain ⟨x, hx⟩ : ∃ z, z = L[i] := ⟨_, rfl⟩
      rw [← hx] at d0 d1 hxI hkt
      obtain ⟨j, p⟩ := x
      dsimp only at d0 d1 hxI hkt
      have hcj := hck _ hsl j
      obtain ⟨M, hM⟩ : ∃ z, z = ((L.take i).map (·.1)).filter fun x => decide (f x = 0) := ⟨_, rfl⟩
      rw [← hM] at hkt hkl ho
      by_cases he : f j = 0
      · rw [he] at hcj
        rw [if_pos (by simp [he])] at hkt
        have HK := Lib.hid hkt
        have HL := Lib.hid (show M.length ≤ 100000 from by omega)
        clear he hkt hx hkl htl hM
        go_wp2_with fail
        with_reducible refine hcj.mono ?_
        rintro e w4 ⟨rfl, rfl⟩
        dsimp only
        go_wp2_with (at_builtin; go_loud (refine wpL_push rfl _ _ _ rfl B 3 (.int .i64 0) 1 8 Tryd.underlying28 infoIntT3 rfl (by decide) (intRp .i64) rfl F _ _ rfl ho [.int .i64 j] _ j 1 (by go_simp) ⟨rfl, hxI.1⟩ hhF (by have := HL.out; omega) (by have := HL.out; omega) hBr ?_); intro v9 w9 ho9 hg9 hk9)
        go_roundw
        case rel => exact ⟨i + 1, by omega, by go_num, by rw [HK.out]; exact ho9, by have := hk9.size; omega, hsl.ch hk9 (fun k z => (ho.blk _ z).1), hg9 No w (by have := HB.out; omega) hC⟩
        case measure => exact meas_lt (by omega)
      · rw [if_neg (by simp [he]), List.append_nil] at hkt
        obtain ⟨y, hy⟩ : ∃ z, z = f j := ⟨_, rfl⟩
        rw [← hy] at hcj he
        have b1 : (y == 0) = false := by simp [he]
        have HK := Lib.hid hkt
        clear he hkt hx hkl htl hM hy
        go_wp2_with fail
        with_reducible refine hcj.mono ?_
        rintro e w4 ⟨rfl, rfl⟩
        dsimp only
        go_wp2_with fail
        go_roundw
        case rel => exact ⟨i + 1, by omega, by go_num, by rw [HK.out]; exact ho, hBr, hsl, hC⟩
        case measure => exact meas_lt (by omega)
    · obtain rfl : i = L.length := by omega
      rw [List.take_length] at ho
      go_wp2_with fail
      go_ret
      obtain ⟨q', c', hv, hs⟩ := ho.sl hhF
      exact ⟨q', c', by rw [hv]; rfl, hs, hC⟩

theorem annot_Targets_nil (w : World) (kind k : Int) :
    Calls Tryd.prog 11 #[.pointer none, .int .i64 kind, .int .i64 k] w fun e w' => e = .returned (.slice none 0 0) ∧ w = w' := by
  go_enter Tryd.func11, Tryd.ntmps11
  go_wp2_with fail
  go_ret
  exact ⟨rfl, rfl⟩

set_option maxRecDepth 100000 in
theorem annot_Targets (F : Nat → Prop) (w : World) (t m n : Nat) (L : TRows) (kind k : Int) (h : TreeAt w t m L) (ok : TreeOk L n) (hL : L.length ≤ 100000) (hF : ∀ k, F k → k < w.heap.size) (hw : Wt w) (ik : I64 kind) :
    Calls Tryd.prog 11 #[.pointer (some ⟨t, 0, none⟩), .int .i64 kind, .int .i64 k] w fun e w' => ∃ q' c', e = .returned (.slice q' (tg L kind k).length c') ∧ SlR (intRp .i64) F w' q' c' (tg L kind k) ∧ Ch No w w' := by
  have hwk := tree_Walk No w t m n L h ok hL (fun _ e => e.elim)
  have hck := fun W (hc : Ch No w W) x => annot_Check W t m n L kind k x (h.ch0 hc) ok hL (hw.ch0 hc) ik
  have htg := tg_of ok kind k
  have hsl := walk_length ok
  have hi64 := ids_I64 ok 0
  rw [← htg]
  rw [sorted_length]
  obtain ⟨S, hS⟩ : ∃ z, z = sub L 0 := ⟨_, rfl⟩
  obtain ⟨f, hf⟩ : ∃ f : Int → Int, f = chk L kind k := ⟨_, rfl⟩
  simp only [← hS] at hwk hsl hi64 ⊢
  simp only [← hf] at hck ⊢
  have hSL : S.length ≤ 100000 := by omega
  clear hS hf hsl htg ok
  go_enter Tryd.func11, Tryd.ntmps11
  go_wp2_with fail
  with_reducible refine hwk.mono ?_
  rintro e w2 ⟨q, c, rfl, hq2, hc2⟩
  obtain ⟨B, hB⟩ : ∃ z, z = w2.heap.size := ⟨_, rfl⟩
  have hwB : w.heap.size ≤ B := by have := hc2.size; omega
  have hq0 := hq2.more (F' := fun k => B ≤ k) (fun k q => .inr (by omega))
  have HB := Lib.hid hB
  clear hB
  dsimp only
  go_wp2_with fail
  go_loopw [7, 16] (fun v u wq => ∃ (i : Nat), i ≤ S.length ∧ u = .int .i64 i ∧ OwnR (intRp .i64) B 3 No wq v ((S.take i).filter fun x => decide (f x = 0)) ∧ B ≤ wq.heap.size ∧ SlR (intRp .i64) (fun k => B ≤ k) wq q c S ∧ Ch No w wq) (fun _ u _ => S.length - (intOf u).toNat)
  case atStart => exact ⟨0, by omega, rfl, OwnR.nilR _ _ _ _ _, by have := HB.out; omega, hq0, hc2⟩
  case round =>
    obtain ⟨i, hi, rfl, ho, hBr, hsl, hC⟩ := hrel
    by_cases hlt : i < S.length
    · obtain ⟨bq, off, rfl, _, _, d0, hxI⟩ := hsl.int_at i hlt
      have hkt := filter_take hlt (fun x => decide (f x = 0))
      have hkl := List.length_filter_le (fun x => decide (f x = 0)) (S.take i)
      have htl : (S.take i).length ≤ i := by rw [List.length_take]; omega
      obtain ⟨j, hx⟩ : ∃ z, z = S[i] := ⟨_, rfl⟩
      rw [← hx] at d0 hxI hkt
      have hcj := hck _ hC j
      obtain ⟨M, hM⟩ : ∃ z, z = (S.take i).filter fun x => decide (f x = 0) := ⟨_, rfl⟩
      rw [← hM] at hkt hkl ho
      by_cases he : f j = 0
      · rw [he] at hcj
        rw [if_pos (by simp [he])] at hkt
        have HK := Lib.hid hkt
        have HL := Lib.hid (show M.length ≤ 100000 from by omega)
        clear he hkt hx hkl htl hM
        go_wp2_with fail
        with_reducible refine hcj.mono ?_
        rintro e w4 ⟨rfl, hc4⟩
        have ho4 := ho.ch0 hc4
        have hB4 : B ≤ w4.heap.size := by have := hc4.size; omega
        dsimp only
        go_wp2_with (at_builtin; go_loud (refine wpL_push rfl _ _ _ rfl B 3 (.int .i64 0) 1 8 Tryd.underlying28 infoIntT3 rfl (by decide) (intRp .i64) rfl No _ _ rfl ho4 [.int .i64 j] _ j 1 (by go_simp) ⟨rfl, hxI⟩ (fun _ e => e.elim) (by have := HL.out; omega) (by have := HL.out; omega) hB4 ?_); intro v9 w9 ho9 hg9 hk9)
        go_roundw
        case rel => exact ⟨i + 1, by omega, by go_num, by rw [HK.out]; exact ho9, by have := hk9.size; omega, (hsl.ch0 hc4).ch hk9 (fun k z => (ho4.blk _ z).1), hg9 No w (by have := HB.out; omega) (hC.trans hc4)⟩
        case measure => exact meas_lt (by omega)
      · rw [if_neg (by simp [he]), List.append_nil] at hkt
        obtain ⟨y, hy⟩ : ∃ z, z = f j := ⟨_, rfl⟩
        rw [← hy] at hcj he
        have b1 : (y == 0) = false := by simp [he]
        have HK := Lib.hid hkt
        clear he hkt hx hkl htl hM hy
        go_wp2_with fail
        with_reducible refine hcj.mono ?_
        rintro e w4 ⟨rfl, hc4⟩
        dsimp only
        go_wp2_with fail
        go_roundw
        case rel => exact ⟨i + 1, by omega, by go_num, by rw [HK.out]; exact ho.ch0 hc4, by have := hc4.size; omega, hsl.ch0 hc4, hC.trans hc4⟩
        case measure => exact meas_lt (by omega)
    · obtain rfl : i = S.length := by omega
      rw [List.take_length] at ho
      have hlf := List.length_filter_le (fun x => decide (f x = 0)) S
      have hso := sort_own _ B _ _ ho (by omega)
      obtain ⟨M, hM⟩ : ∃ z, z = S.filter fun x => decide (f x = 0) := ⟨_, rfl⟩
      rw [← hM] at hso ho
      have HM := Lib.hid hM
      clear hM hlf
      go_wp2_with fail
      with_reducible refine hso.mono ?_
      rintro e w5 ⟨rfl, ho5, hc5⟩
      dsimp only
      go_wp2_with fail
      go_ret
      obtain ⟨q', c', hv, hs⟩ := (OwnR.ofInts (F := F) ho5.ints.1 rfl ho5.ints.2).sl (fun k q => by have := hF k q; omega)
      rw [sorted_length] at hv
      have hM := HM.out
      subst hM
      exact ⟨q', c', by rw [hv]; rfl, hs, hC.andThen hc5 (fun k q => .inr (by have := (ho.blk k q).1; omega))⟩
end Go.Proofs.YtinjbonodlkafaaDoor

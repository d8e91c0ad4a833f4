/- Layer 5 (tree): Add, Remove. -/
import Derived.Test.YtinjbonodlkafaaDoorTree
set_option linter.unusedVariables false
set_option linter.unusedSimpArgs false
namespace Go.Proofs.YtinjbonodlkafaaDoor
open Go Go.RowKit

theorem TreeAt.added {w w' : World} {t m : Nat} {L : TRows} {k p : Int} (h : TreeAt w t m L) (hup : L.Pairwise (fun x y => x.1 < y.1)) (hk : ∀ q, (k, q) ∉ L) {al : AL} (hg : ∀ q, aGet al q = (pget L q).map (Value.int .i64)) (hm' : MapAt w' m (aSet al k (.int .i64 p))) (hc : Ch (One m) w w') : TreeAt w' t m (addRow L k p) :=
  ⟨h.tm, hc.heap h.head (fun q => h.tm q), _, hm', fun q => by
    rw [aGet_set, hg q]
    have hu := add_up hup hk (p := p)
    by_cases e : q = k
    · rw [if_pos e, (pget_some hu).2 (mem_add.2 (.inl (by rw [e])))]; rfl
    · rw [if_neg e]
      cases e2 : pget L q with
      | none => rw [(pget_none hu).2 (fun p' hp' => by
          rcases mem_add.1 hp' with e3 | e3
          · exact e (Prod.mk.inj e3).1
          · exact (pget_none hup).1 e2 p' e3)]
      | some p' => rw [(pget_some hu).2 (mem_add.2 (.inr ((pget_some hup).1 e2)))]⟩
theorem TreeAt.removed {w w' : World} {t m : Nat} {L : TRows} {k : Int} (h : TreeAt w t m L) (hup : L.Pairwise (fun x y => x.1 < y.1)) {al : AL} (hn : (aKeys al).Nodup) (hg : ∀ q, aGet al q = (pget L q).map (Value.int .i64)) (hm' : MapAt w' m (aDel al k)) (hc : Ch (One m) w w') : TreeAt w' t m (rmRow L k) :=
  ⟨h.tm, hc.heap h.head (fun q => h.tm q), _, hm', fun q => by
    rw [aGet_del _ _ _ hn, hg q]
    have hu : (rmRow L k).Pairwise (fun x y => x.1 < y.1) := List.Pairwise.filter _ hup
    by_cases e : q = k
    · rw [if_pos e, (pget_none hu).2 (fun p' hp' => (mem_rm.1 hp').2 e)]; rfl
    · rw [if_neg e]
      cases e2 : pget L q with
      | none => rw [(pget_none hu).2 (fun p' hp' => (pget_none hup).1 e2 p' (mem_rm.1 hp').1)]
      | some p' => rw [(pget_some hu).2 (mem_rm.2 ⟨(pget_some hup).1 e2, e⟩)]⟩

set_option maxRecDepth 100000 in
theorem tree_Add (w : World) (t m n : Nat) (L : TRows) (k p : Int) (h : TreeAt w t m L) (ok : TreeOk L n) :
    Calls Tryd.prog 19 #[.pointer (some ⟨t, 0, none⟩), .int .i64 k, .int .i64 p] w fun e w' => e = .returned (.int .i64 (tPut L k p).2) ∧ TreeAt w' t m (tPut L k p).1 ∧ Ch (One m) w w' := by
  have c0 := cellOf h.head 0 rfl
  have hhk := tree_Has w t m L k h
  have hhp := tree_Has w t m L p h
  by_cases h1 : k < 1
  · have b1 : decide (k < 1) = true := decide_eq_true h1
    have HT := Lib.hid (show tPut L k p = (L, 1) from by unfold tPut; rw [if_pos (.inl h1)])
    clear h1
    go_enter Tryd.func19, Tryd.ntmps19
    go_wp2_with fail
    go_ret
    rw [HT.out]
    exact ⟨rfl, h, Ch.refl _ _⟩
  have b1 : decide (k < 1) = false := decide_eq_false h1
  cases hk : hasB L k with
  | true =>
    rw [hk] at hhk
    have HT := Lib.hid (show tPut L k p = (L, 1) from by unfold tPut; rw [if_pos (.inr hk)])
    clear h1 hk
    go_enter Tryd.func19, Tryd.ntmps19
    go_wp2_with fail
    with_reducible refine hhk.mono ?_
    rintro e w1 ⟨rfl, rfl⟩
    dsimp only
    go_wp2_with fail
    go_ret
    rw [HT.out]
    exact ⟨rfl, h, Ch.refl _ _⟩
  | false =>
    rw [hk] at hhk
    have hno : ¬ (k < 1 ∨ hasB L k = true) := by rw [hk]; rintro (z | z); exact h1 z; cases z
    obtain ⟨al, hm, hg⟩ := h.map
    obtain ⟨w3, hu, hm4, hc4⟩ := run_mapUpdate_al (P := Tryd.prog) (t := 55) Tryd.underlying55 (by kernel_rfl) hm k (.int .i64 p)
    have hT3 := h.added (k := k) (p := p) ok.up ((hasB_false ok.up).1 hk) hg hm4 hc4
    by_cases hp0 : p = 0
    · have b2 : (p != 0) = false := by simp [hp0]
      have HT := Lib.hid (show tPut L k p = (addRow L k p, 0) from by unfold tPut; rw [if_neg hno, if_neg (fun z => z.1 hp0)])
      clear h1 hk hno hp0 hg
      go_enter Tryd.func19, Tryd.ntmps19
      go_wp2_with fail
      with_reducible refine hhk.mono ?_
      rintro e w1 ⟨rfl, rfl⟩
      dsimp only
      go_wp2_with fail
      go_ret
      rw [HT.out]
      exact ⟨rfl, hT3, hc4⟩
    · have b2 : (p != 0) = true := by simp [hp0]
      cases hp : hasB L p with
      | false =>
        rw [hp] at hhp
        have HT := Lib.hid (show tPut L k p = (L, 2) from by unfold tPut; rw [if_neg hno, if_pos ⟨hp0, hp⟩])
        clear h1 hk hno hp0 hp hg hm4 hu
        go_enter Tryd.func19, Tryd.ntmps19
        go_wp2_with fail
        with_reducible refine hhk.mono ?_
        rintro e w1 ⟨rfl, rfl⟩
        dsimp only
        go_wp2_with fail
        with_reducible refine hhp.mono ?_
        rintro e w1 ⟨rfl, rfl⟩
        dsimp only
        go_wp2_with fail
        go_ret
        rw [HT.out]
        exact ⟨rfl, h, Ch.refl _ _⟩
      | true =>
        rw [hp] at hhp
        have HT := Lib.hid (show tPut L k p = (addRow L k p, 0) from by unfold tPut; rw [if_neg hno, if_neg (fun z => by rw [hp] at z; cases z.2)])
        clear h1 hk hno hp0 hp hg
        go_enter Tryd.func19, Tryd.ntmps19
        go_wp2_with fail
        with_reducible refine hhk.mono ?_
        rintro e w1 ⟨rfl, rfl⟩
        dsimp only
        go_wp2_with fail
        with_reducible refine hhp.mono ?_
        rintro e w1 ⟨rfl, rfl⟩
        dsimp only
        go_wp2_with fail
        go_ret
        rw [HT.out]
        exact ⟨rfl, hT3, hc4⟩

set_option maxRecDepth 100000 in
theorem tree_Remove (w : World) (t m n : Nat) (L : TRows) (k : Int) (h : TreeAt w t m L) (ok : TreeOk L n) (hl : L.length ≤ 100000) :
    Calls Tryd.prog 17 #[.pointer (some ⟨t, 0, none⟩), .int .i64 k] w fun e w' => e = .returned (.int .i64 (tOut L k).2) ∧ TreeAt w' t m (tOut L k).1 ∧ Ch (One m) w w' := by
  have hhk := tree_Has w t m L k h
  cases hk : hasB L k with
  | false =>
    rw [hk] at hhk
    have HT := Lib.hid (show tOut L k = (L, 2) from by unfold tOut; rw [if_pos hk])
    clear hk
    go_enter Tryd.func17, Tryd.ntmps17
    go_wp2_with fail
    with_reducible refine hhk.mono ?_
    rintro e w1 ⟨rfl, rfl⟩
    dsimp only
    go_wp2_with fail
    go_ret
    rw [HT.out]
    exact ⟨rfl, h, Ch.refl _ _⟩
  | true =>
    rw [hk] at hhk
    have hkd := tree_Kids No w t m n L k h ok hl (fun _ z => z.elim)
    have hkl := kids_length L k
    by_cases hke : kids L k = []
    · have HT := Lib.hid (show tOut L k = (rmRow L k, 0) from by unfold tOut; rw [if_neg (by rw [hk]; simp), if_neg (fun z => z hke)])
      rw [hke] at hkd
      have HU := Lib.hid ok.up
      clear hk hke hkl ok
      go_enter Tryd.func17, Tryd.ntmps17
      go_wp2_with fail
      with_reducible refine hhk.mono ?_
      rintro e w1 ⟨rfl, rfl⟩
      dsimp only
      go_wp2_with fail
      with_reducible refine hkd.mono ?_
      rintro e w1 ⟨q, c, rfl, _, hc1⟩
      have h1 := h.ch0 hc1
      have c0 := cellOf h1.head 0 rfl
      obtain ⟨al, hm, hg⟩ := h1.map
      obtain ⟨w2, hd, hm2, hc2⟩ := run_delete_al (P := Tryd.prog) (t := 55) Tryd.underlying55 (by kernel_rfl) hm k 3 1
      have hd0 : ∀ ty, (Builtin.delete_ #[55, 3] ty #[.map (some m), .int .i64 k]).run Tryd.prog w1 = .ok (.tuple #[]) w2 := fun ty => hd
      have hT2 := h1.removed (k := k) HU.out hm.nodup hg hm2 hc2
      clear hg
      try simp only [List.length_nil]
      try dsimp only
      go_wp2_with fail
      go_ret
      rw [HT.out]
      exact ⟨rfl, hT2, hc1.ofNo.trans hc2⟩
    · have HT := Lib.hid (show tOut L k = (L, 6) from by unfold tOut; rw [if_neg (by rw [hk]; simp), if_pos hke])
      obtain ⟨kn, hkn⟩ : ∃ z, z = (kids L k).length := ⟨_, rfl⟩
      have hk0 : 0 < kn := by rw [hkn]; exact List.length_pos_iff.2 hke
      rw [← hkn] at hkd
      have b3 : decide ((kn : Int) > 0) = true := decide_eq_true (by omega)
      clear hk hke hkl hkn ok
      go_enter Tryd.func17, Tryd.ntmps17
      go_wp2_with fail
      with_reducible refine hhk.mono ?_
      rintro e w1 ⟨rfl, rfl⟩
      dsimp only
      go_wp2_with fail
      with_reducible refine hkd.mono ?_
      rintro e w1 ⟨q, c, rfl, _, hc1⟩
      dsimp only
      go_wp2_with fail
      go_ret
      rw [HT.out]
      exact ⟨rfl, h.ch0 hc1, hc1.ofNo⟩
end Go.Proofs.YtinjbonodlkafaaDoor

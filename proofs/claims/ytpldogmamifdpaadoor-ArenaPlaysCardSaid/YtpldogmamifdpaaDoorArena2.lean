/- Layer 11 (arena): Alloc. -/
import Derived.Test.YtpldogmamifdpaaDoorArena
set_option linter.unusedVariables false
set_option linter.unusedSimpArgs false
namespace Go.Proofs.YtpldogmamifdpaaDoor
open Go Go.RowKit

/-- What an Alloc answers, and leaves. -/
def AllocTo (x : List Bool) (W : List Int) (pg us : Int) (R T : List (Int × Int)) (size a E : Int) (x' : List Bool) (W' : List Int) (pg' us' : Int) (R' T' : List (Int × Int)) : Prop :=
  (needE size = 1 ∧ a = 0 ∧ E = 1 ∧ x' = x ∧ W' = W ∧ pg' = pg ∧ us' = us ∧ R' = R ∧ T' = T) ∨
  (needE size = 0 ∧ needN us size = 0 ∧ a = placeA pg us size 0 ∧ E = 0 ∧ x' = x ∧ W' = W ∧ pg' = (placeP pg us size 0).1 ∧ us' = (placeP pg us size 0).2 ∧ R' = R ∧ T' = T ++ [(a, size)]) ∨
  (needE size = 0 ∧ 0 < needN us size ∧ IsFind x (needN us size).toNat none ∧ a = 0 ∧ E = 3 ∧ x' = x ∧ W' = W ∧ pg' = pg ∧ us' = us ∧ R' = R ∧ T' = T) ∨
  (needE size = 0 ∧ 0 < needN us size ∧ ∃ j : Nat, IsFind x (needN us size).toNat (some j) ∧ a = placeA pg us size j ∧ E = 0 ∧ x' = markB x j true (needN us size).toNat ∧ W' = fillL W (16 * j) 0 (16 * (needN us size).toNat) ∧
    pg' = (placeP pg us size j).1 ∧ us' = (placeP pg us size j).2 ∧ R' = R ++ [((j : Int), needN us size)] ∧ T' = T ++ [(a, size)])

theorem placeA_bd {pg us size page : Int} (h : PlanOk pg us) (hp : 0 ≤ page ∧ page ≤ 1024) : -100 ≤ placeA pg us size page ∧ placeA pg us size page ≤ 100000 := by
  have := h.bd
  unfold placeA
  split
  · omega
  · split
    · omega
    · split <;> omega

/-- Behind both appends (or the second alone): the arena anew. -/
theorem arena_anew {w w9 : World} {base b p : Nat} {fv : Value} {pg us : Int} {rv tv tv' : Value} {R T T' : List (Int × Int)} (h : ArenaAt w base b fv p pg us rv tv R T) (hc : Ch (fun k => tv.ownBlock = some k) w w9) (ho : OwnR (pairRp .i64) base 37 No w9 tv' T') (hk : ∀ k, tv'.ownBlock = some k → tv.ownBlock = some k ∨ w.heap.size ≤ k) :
    ArenaAt (w9.setCell ⟨b, 3, none⟩ tv') base b fv p pg us rv tv' R T' ∧ Ch (foot b p rv tv) w (w9.setCell ⟨b, 3, none⟩ tv') ∧ (∀ k, foot b p rv tv' k → foot b p rv tv k ∨ w.heap.size ≤ k) := by
  have hbl := heap_lt h.head
  have hpl := h.plan.lt
  have hkb : ∀ k, tv'.ownBlock = some k → k ≠ b ∧ k ≠ p ∧ rv.ownBlock ≠ some k := by
    intro k q
    rcases hk k q with q | q
    · exact ⟨(h.tb k q).1, (h.tb k q).2, fun r => h.rt k r q⟩
    · exact ⟨by omega, by omega, fun r => by have := (h.runs.blk k r).2; omega⟩
  have hB : Ch (One b) w9 (w9.setCell ⟨b, 3, none⟩ tv') := Ch.setIn (F := One b) (Ch.refl _ _) (p := ⟨b, 3, none⟩) rfl _
  have hd9 := hc.heap h.head (fun q => (h.tb b q).1 rfl)
  refine ⟨⟨h.hb, h.hp, heap_set hd9 (i := 3) tv', (h.plan.ch hc (fun q => (h.tb p q).2 rfl)).ch hB (fun q => h.bp (show p = b from q).symm), (h.runs.aside hc (fun k q r => h.rt k q r)).aside hB (fun k q r => (h.rb k q).1 r), ho.aside hB (fun k q r => (hkb k q).1 r), h.bp, h.rb, fun k q => ⟨(hkb k q).1, (hkb k q).2.1⟩, fun k q r => (hkb k r).2.2 q⟩, (hc.mono fun k q => .inr (.inr (.inr q))).trans (hB.mono fun k q => .inl q), ?_⟩
  rintro k (q | q | q | q)
  · exact .inl (.inl q)
  · exact .inl (.inr (.inl q))
  · exact .inl (.inr (.inr (.inl q)))
  · exact (hk k q).imp (fun r => .inr (.inr (.inr r))) id
theorem arena_anewR {w w9 : World} {base b p : Nat} {fv : Value} {pg us : Int} {rv tv rv' : Value} {R T R' : List (Int × Int)} (h : ArenaAt w base b fv p pg us rv tv R T) (hc : Ch (fun k => rv.ownBlock = some k) w w9) (ho : OwnR (pairRp .i64) base 37 No w9 rv' R') (hk : ∀ k, rv'.ownBlock = some k → rv.ownBlock = some k ∨ w.heap.size ≤ k) :
    ArenaAt (w9.setCell ⟨b, 2, none⟩ rv') base b fv p pg us rv' tv R' T ∧ Ch (foot b p rv tv) w (w9.setCell ⟨b, 2, none⟩ rv') ∧ (∀ k, foot b p rv' tv k → foot b p rv tv k ∨ w.heap.size ≤ k) := by
  have hbl := heap_lt h.head
  have hpl := h.plan.lt
  have hkb : ∀ k, rv'.ownBlock = some k → k ≠ b ∧ k ≠ p ∧ tv.ownBlock ≠ some k := by
    intro k q
    rcases hk k q with q | q
    · exact ⟨(h.rb k q).1, (h.rb k q).2, h.rt k q⟩
    · exact ⟨by omega, by omega, fun r => by have := (h.things.blk k r).2; omega⟩
  have hB : Ch (One b) w9 (w9.setCell ⟨b, 2, none⟩ rv') := Ch.setIn (F := One b) (Ch.refl _ _) (p := ⟨b, 2, none⟩) rfl _
  have hd9 := hc.heap h.head (fun q => (h.rb b q).1 rfl)
  refine ⟨⟨h.hb, h.hp, heap_set hd9 (i := 2) rv', (h.plan.ch hc (fun q => (h.rb p q).2 rfl)).ch hB (fun q => h.bp (show p = b from q).symm), ho.aside hB (fun k q r => (hkb k q).1 r), (h.things.aside hc (fun k q r => h.rt k r q)).aside hB (fun k q r => (h.tb k q).1 r), h.bp, fun k q => ⟨(hkb k q).1, (hkb k q).2.1⟩, h.tb, fun k q => (hkb k q).2.2⟩, (hc.mono fun k q => .inr (.inr (.inl q))).trans (hB.mono fun k q => .inl q), ?_⟩
  rintro k (q | q | q | q)
  · exact .inl (.inl q)
  · exact .inl (.inr (.inl q))
  · exact (hk k q).imp (fun r => .inr (.inr (.inl r))) id
  · exact .inl (.inr (.inr (.inr q)))
theorem ArenaAt.placed {w w' : World} {base b p : Nat} {fv : Value} {pg us pg' us' : Int} {rv tv : Value} {R T : List (Int × Int)} (h : ArenaAt w base b fv p pg us rv tv R T) (hp : PlanAt w' p pg' us') (hc : Ch (One p) w w') : ArenaAt w' base b fv p pg' us' rv tv R T :=
  ⟨h.hb, h.hp, hc.heap h.head h.bp, hp, h.runs.aside hc (fun k q r => (h.rb k q).2 r), h.things.aside hc (fun k q r => (h.tb k q).2 r), h.bp, h.rb, h.tb, h.rt⟩

set_option maxRecDepth 100000 in
set_option maxHeartbeats 4000000 in
theorem arena_Alloc (w : World) (base b p s p0 g m h : Nat) (pg us : Int) (rv tv : Value) (R T : List (Int × Int)) (x : List Bool) (W : List Int) (size : Int) (ha : ArenaAt w base b (.pointer (some ⟨s, 0, none⟩)) p pg us rv tv R T) (hk : PagesAt w s p0 g m h x W) (hn : Nw w) (hs : I64 size)
    (hap : ∀ k, foot b p rv tv k → k ≠ s ∧ k ≠ p0 ∧ k ≠ g ∧ k ≠ m ∧ k ≠ h) (hnb : 0 < base ∧ 0 ≠ g ∧ 0 ≠ h) (hR : R.length ≤ 100000) (hT : T.length ≤ 100000) :
    Calls Tryd.prog 8 #[.pointer (some ⟨b, 0, none⟩), .int .i64 size] w fun e w' => ∃ a E x' W' pg' us' rv' tv' R' T', e = .returned (.tuple #[.int .i64 a, .int .i64 E]) ∧ ArenaAt w' base b (.pointer (some ⟨s, 0, none⟩)) p pg' us' rv' tv' R' T' ∧ PagesAt w' s p0 g m h x' W' ∧
      Ch (fun k => foot b p rv tv k ∨ k = g ∨ k = h) w w' ∧ (∀ k, foot b p rv' tv' k → foot b p rv tv k ∨ w.heap.size ≤ k) ∧ AllocTo x W pg us R T size a E x' W' pg' us' R' T' := by
  have c0 : w.cell? ⟨b, 0, none⟩ = some (.pointer (some ⟨s, 0, none⟩)) := cellOf ha.head 0 rfl
  have c1 : w.cell? ⟨b, 1, none⟩ = some (.pointer (some ⟨p, 0, none⟩)) := cellOf ha.head 1 rfl
  have hnd := plan_Need w p pg us size ha.plan hn hs
  have hbd := ha.plan.ok.bd
  have hs' := hs.bd
  have hbl := (ha.foot_bd b (.inl rfl))
  have hpl := (ha.foot_bd p (.inr (.inl rfl)))
  have hnf : ∀ k, foot b p rv tv k → k ≠ 0 := fun k q e => by have := (ha.foot_bd k q).1; omega
  by_cases hb : size < 1 ∨ 16384 < size
  · have e1 : needN us size = 0 := by unfold needN; rw [if_pos hb]
    have e2 : needE size = 1 := by unfold needE; rw [if_pos hb]
    have HA := Lib.hid (show AllocTo x W pg us R T size 0 1 x W pg us R T from .inl ⟨e2, rfl, rfl, rfl, rfl, rfl, rfl, rfl, rfl⟩)
    rw [e1, e2] at hnd
    clear hb e1 e2
    go_enter Tryd.func8, Tryd.ntmps8
    go_wp2_with fail
    with_reducible refine hnd.mono ?_
    rintro e w1 ⟨rfl, hc1⟩
    dsimp only
    go_wp2_with fail
    go_ret2
    exact ⟨0, 1, x, W, pg, us, rv, tv, R, T, rfl, ha.ch0 hc1, hk.ch0 hc1, hc1.ofNo, fun k q => .inl q, HA.out⟩
  · have hE : needE size = 0 := by unfold needE; rw [if_neg hb]
    by_cases hfit : size ≤ 16 - us
    · have hN : needN us size = 0 := by unfold needN; rw [if_neg hb, if_pos hfit]
      rw [hN, hE] at hnd
      have hAB := placeA_bd (pg := pg) (us := us) (size := size) (page := 0) ha.plan.ok (by omega)
      have hpc := fun w1 (hp1 : PlanAt w1 p pg us) (hn1 : Nw w1) => plan_Place w1 p pg us size 0 hp1 hn1 hs (show _ ∧ _ from by omega)
      have hPE : placeE us size 0 = 0 := by unfold placeE; rw [if_neg hb, if_pos hfit]
      simp only [hPE] at hpc
      obtain ⟨A, hA⟩ : ∃ z, z = placeA pg us size 0 := ⟨_, rfl⟩
      have HA := Lib.hid (show AllocTo x W pg us R T size A 0 x W (placeP pg us size 0).1 (placeP pg us size 0).2 R (T ++ [(A, size)]) from .inr (.inl ⟨hE, hN, hA, rfl, rfl, rfl, rfl, rfl, rfl, rfl⟩))
      simp only [← hA] at hpc hAB
      obtain ⟨pg', hpg⟩ : ∃ z, z = (placeP pg us size 0).1 := ⟨_, rfl⟩
      obtain ⟨us', hus⟩ : ∃ z, z = (placeP pg us size 0).2 := ⟨_, rfl⟩
      rw [← hpg, ← hus] at HA
      simp only [← hpg, ← hus] at hpc
      clear hb hfit hN hE hA hPE hpg hus
      go_enter Tryd.func8, Tryd.ntmps8
      go_wp2_with fail
      with_reducible refine hnd.mono ?_
      rintro e w1 ⟨rfl, hc1⟩
      have ha1 := ha.ch0 hc1
      have c1 := hc1.cell c1 (fun q => q)
      have hs1 := hc1.size
      dsimp only
      go_wp2_with fail
      with_reducible refine (hpc w1 ha1.plan (hn.ch hc1 (fun q => q))).mono ?_
      rintro e w2 ⟨rfl, hp2, hc2⟩
      have ha2 := ha1.placed hp2 hc2
      have hs2 := hc2.size
      have y3 : w2.cell? ⟨b, 3, none⟩ = some tv := cellOf ha2.head 3 rfl
      have HLNt := Lib.hid (show (T ++ [(A, size)]).length = T.length + 1 by simp)
      dsimp only
      go_wp2_with (at_builtin; go_loud (refine wpL_pushK rfl _ _ _ rfl base 37 (.agg #[.int .i64 0, .int .i64 0]) 2 16 Tryd.underlying35 infoRun rfl (by decide) (pairRp .i64) rfl No tv T rfl ha2.things [.int .i64 A, .int .i64 size] _ (A, size) 1 (by go_simp) ⟨rfl, ⟨show _ ∧ _ from by omega, show _ ∧ _ from by omega⟩⟩ (fun _ q => q.elim) (by omega) (by omega) (by omega) ?_; intro v9 w9 ho9 hc9 hk9; obtain ⟨A9, C9, hv9, _⟩ := ho9.sl (fun _ q => q.elim); rw [HLNt.out] at hv9; subst hv9; have kb9 := hc9.heap ha2.head (fun q => (ha2.tb b q).1 rfl); have fb9 := freeOf kb9 3; have xb9 := cellOf kb9 3 rfl; have kbs9 := heap_set (i := 3) kb9 (.slice A9 (T.length + 1) C9); have zb9 := cellOf kbs9 1 rfl; have zc9 := cellOf kbs9 3 rfl))
      have hfin := arena_anew ha2 hc9 ho9 hk9
      go_ret2
      exact ⟨A, 0, x, W, pg', us', rv, _, R, _, rfl, hfin.1, (((hk.ch0 hc1).ch hc2 (fun q => (hap p (.inr (.inl rfl))).1 (show s = p from q).symm) (fun q => (hap p (.inr (.inl rfl))).2.1 (show p0 = p from q).symm) (fun q => (hap p (.inr (.inl rfl))).2.2.1 (show g = p from q).symm) (fun q => (hap p (.inr (.inl rfl))).2.2.2.1 (show m = p from q).symm) (fun q => (hap p (.inr (.inl rfl))).2.2.2.2 (show h = p from q).symm))).ch hfin.2.1 (fun q => (hap s q).1 rfl) (fun q => (hap p0 q).2.1 rfl) (fun q => (hap g q).2.2.1 rfl) (fun q => (hap m q).2.2.2.1 rfl) (fun q => (hap h q).2.2.2.2 rfl),
        ((hc1.ofNo).trans (hc2.mono fun k q => .inl (.inr (.inl q)))).trans (hfin.2.1.mono fun k q => .inl q), fun k q => (hfin.2.2 k q).imp id (fun r => by omega), HA.out⟩
    · have hNp := needN_pos hb hfit (by omega)
      rw [hE] at hnd
      have b1 : decide (needN us size > 0) = true := decide_eq_true hNp.1
      obtain ⟨N, hN⟩ : ∃ N : Nat, (N : Int) = needN us size := ⟨(needN us size).toNat, by omega⟩
      have hN1 : 1 ≤ N ∧ N ≤ 1024 := by omega
      rw [← hN] at hnd b1
      have hg := fun w1 (hk1 : PagesAt w1 s p0 g m h x W) => pages_Grant w1 s p0 g m h x W N hk1 (show _ ∧ _ from by omega)
      simp only [if_neg (show ¬ ((N : Int) < 1) by omega), Int.toNat_natCast] at hg
      go_enter Tryd.func8, Tryd.ntmps8
      go_wp2_with fail
      with_reducible refine hnd.mono ?_
      rintro e w1 ⟨rfl, hc1⟩
      have ha1 := ha.ch0 hc1
      have hk1 := hk.ch0 hc1
      have c0 := hc1.cell c0 (fun q => q)
      have c1 := hc1.cell c1 (fun q => q)
      have hs1 := hc1.size
      have HNN := Lib.hid hN
      have HB0 := Lib.hid hb
      have HFIT := Lib.hid hfit
      have HEE := Lib.hid hE
      clear hN hb hfit hE hnd hNp
      dsimp only
      go_wp2_with fail
      with_reducible refine (hg w1 hk1).mono ?_
      rintro e w2 ⟨r, hr, hq⟩
      cases r with
      | none =>
        obtain ⟨rfl, rfl⟩ := hq
        have HA := Lib.hid (show AllocTo x W pg us R T size 0 3 x W pg us R T from .inr (.inr (.inl ⟨HEE.out, by rw [← HNN.out]; omega, by rw [← HNN.out, Int.toNat_natCast]; exact hr, rfl, rfl, rfl, rfl, rfl, rfl, rfl, rfl⟩)))
        clear hr
        dsimp only
        go_wp2_with fail
        go_ret2
        exact ⟨0, 3, x, W, pg, us, rv, tv, R, T, rfl, ha1, hk1, hc1.ofNo, fun k q => .inl q, HA.out⟩
      | some j =>
        obtain ⟨rfl, hk2, hc2⟩ := hq
        have hjb : j ≤ 1024 := by have := hr.1.1; have := hk.le; omega
        have hAB := placeA_bd (pg := pg) (us := us) (size := size) (page := (j : Int)) ha.plan.ok (by omega)
        have hpc := fun w1 (hp1 : PlanAt w1 p pg us) (hn1 : Nw w1) => plan_Place w1 p pg us size (j : Int) hp1 hn1 hs (show _ ∧ _ from by omega)
        have hPE : placeE us size (j : Int) = 0 := by unfold placeE; rw [if_neg (by have := HB0.out; omega), if_neg (by have := HFIT.out; omega), if_neg (by omega)]
        simp only [hPE] at hpc
        obtain ⟨A, hA⟩ : ∃ z, z = placeA pg us size (j : Int) := ⟨_, rfl⟩
        have HA := Lib.hid (show AllocTo x W pg us R T size A 0 (markB x j true N) (fillL W (16 * j) 0 (16 * N)) (placeP pg us size j).1 (placeP pg us size j).2 (R ++ [((j : Int), (N : Int))]) (T ++ [(A, size)]) from .inr (.inr (.inr ⟨HEE.out, by rw [← HNN.out]; omega, j, by rw [← HNN.out, Int.toNat_natCast]; exact hr, hA, rfl, by rw [← HNN.out, Int.toNat_natCast], by rw [← HNN.out, Int.toNat_natCast], rfl, rfl, by rw [HNN.out], rfl⟩)))
        simp only [← hA] at hpc hAB
        obtain ⟨pg', hpg⟩ : ∃ z, z = (placeP pg us size (j : Int)).1 := ⟨_, rfl⟩
        obtain ⟨us', hus⟩ : ∃ z, z = (placeP pg us size (j : Int)).2 := ⟨_, rfl⟩
        rw [← hpg, ← hus] at HA
        simp only [← hpg, ← hus] at hpc
        clear hA hPE hpg hus hr
        have hn2 := (hn.ch hc1 (fun q => q)).ch hc2 (fun q => by rcases q with q | q; exact hnb.2.1 q; exact hnb.2.2 q)
        have ha2 := ha1.ch hc2 (fun k q r => by rcases r with r | r; exact (hap k q).2.2.1 r; exact (hap k q).2.2.2.2 r)
        have hs2 := hc2.size
        have y2 : w2.cell? ⟨b, 2, none⟩ = some rv := cellOf ha2.head 2 rfl
        have y1 : w2.cell? ⟨b, 1, none⟩ = some (.pointer (some ⟨p, 0, none⟩)) := cellOf ha2.head 1 rfl
        have HLNr := Lib.hid (show (R ++ [((j : Int), (N : Int))]).length = R.length + 1 by simp)
        dsimp only
        go_wp2_with (at_builtin; go_loud (refine wpL_pushK rfl _ _ _ rfl base 37 (.agg #[.int .i64 0, .int .i64 0]) 2 16 Tryd.underlying35 infoRun rfl (by decide) (pairRp .i64) rfl No rv R rfl ha2.runs [.int .i64 (j : Int), .int .i64 (N : Int)] _ ((j : Int), (N : Int)) 1 (by go_simp) ⟨rfl, ⟨show _ ∧ _ from by omega, show _ ∧ _ from by omega⟩⟩ (fun _ q => q.elim) (by omega) (by omega) (by omega) ?_; intro v9 w9 ho9 hc9 hk9; obtain ⟨A9, C9, hv9, _⟩ := ho9.sl (fun _ q => q.elim); rw [HLNr.out] at hv9; subst hv9; have kb9 := hc9.heap ha2.head (fun q => (ha2.rb b q).1 rfl); have fb9 := freeOf kb9 2; have xb9 := cellOf kb9 2 rfl; have kbs9 := heap_set (i := 2) kb9 (.slice A9 (R.length + 1) C9); have zb9 := cellOf kbs9 1 rfl; have zc9 := cellOf kbs9 3 rfl))
        have hfinR := arena_anewR ha2 hc9 ho9 hk9
        obtain ⟨w3, hw3⟩ : ∃ z, z = w9.setCell ⟨b, 2, none⟩ (.slice A9 (R.length + 1) C9) := ⟨_, rfl⟩
        rw [← hw3] at hfinR ⊢
        obtain ⟨ha3, hc3, hf3⟩ := hfinR
        have hn3 := hn2.ch hc3 (fun q => hnf _ q rfl)
        have hk3 := hk2.ch hc3 (fun q => (hap s q).1 rfl) (fun q => (hap p0 q).2.1 rfl) (fun q => (hap g q).2.2.1 rfl) (fun q => (hap m q).2.2.2.1 rfl) (fun q => (hap h q).2.2.2.2 rfl)
        have hs3 := hc3.size
        clear hw3 kb9 fb9 xb9 kbs9 zb9 zc9 y1 y2 ho9 hc9 hk9
        with_reducible refine (hpc w3 ha3.plan hn3).mono ?_
        rintro e w4 ⟨rfl, hp4, hc4⟩
        have ha4 := ha3.placed hp4 hc4
        have hs4 := hc4.size
        have y3 : w4.cell? ⟨b, 3, none⟩ = some tv := cellOf ha4.head 3 rfl
        have HLNt := Lib.hid (show (T ++ [(A, size)]).length = T.length + 1 by simp)
        dsimp only
        go_wp2_with (at_builtin; go_loud (refine wpL_pushK rfl _ _ _ rfl base 37 (.agg #[.int .i64 0, .int .i64 0]) 2 16 Tryd.underlying35 infoRun rfl (by decide) (pairRp .i64) rfl No tv T rfl ha4.things [.int .i64 A, .int .i64 size] _ (A, size) 1 (by go_simp) ⟨rfl, ⟨show _ ∧ _ from by omega, show _ ∧ _ from by omega⟩⟩ (fun _ q => q.elim) (by omega) (by omega) (by omega) ?_; intro v8 w8 ho8 hc8 hk8; obtain ⟨A8, C8, hv8, _⟩ := ho8.sl (fun _ q => q.elim); rw [HLNt.out] at hv8; subst hv8; have kb8 := hc8.heap ha4.head (fun q => (ha4.tb b q).1 rfl); have fb8 := freeOf kb8 3; have xb8 := cellOf kb8 3 rfl; have kbs8 := heap_set (i := 3) kb8 (.slice A8 (T.length + 1) C8); have zb8 := cellOf kbs8 1 rfl; have zc8 := cellOf kbs8 3 rfl))
        have hfin := arena_anew ha4 hc8 ho8 hk8
        have hlt2 := hk2.lt
        have hap2 : ∀ k, foot b p (.slice A9 (R.length + 1) C9) tv k → k ≠ s ∧ k ≠ p0 ∧ k ≠ g ∧ k ≠ m ∧ k ≠ h := fun k q => by
          rcases hf3 k q with r | r
          · exact hap k r
          · omega
        go_ret2
        exact ⟨A, 0, _, _, pg', us', _, _, _, _, rfl, hfin.1, (hk3.ch hc4 (fun q => (hap p (.inr (.inl rfl))).1 (show s = p from q).symm) (fun q => (hap p (.inr (.inl rfl))).2.1 (show p0 = p from q).symm) (fun q => (hap p (.inr (.inl rfl))).2.2.1 (show g = p from q).symm) (fun q => (hap p (.inr (.inl rfl))).2.2.2.1 (show m = p from q).symm) (fun q => (hap p (.inr (.inl rfl))).2.2.2.2 (show h = p from q).symm)).ch hfin.2.1 (fun q => (hap2 s q).1 rfl) (fun q => (hap2 p0 q).2.1 rfl) (fun q => (hap2 g q).2.2.1 rfl) (fun q => (hap2 m q).2.2.2.1 rfl) (fun q => (hap2 h q).2.2.2.2 rfl),
          ((((hc1.ofNo).trans (hc2.mono fun k q => .inr q)).trans (hc3.mono fun k q => .inl q)).trans (hc4.mono fun k q => .inl (.inr (.inl q)))).andThen hfin.2.1 (fun k q => by
            rcases hf3 k q with r | r
            · exact .inl (.inl r)
            · exact .inr (by omega)), fun k q => by
            rcases hfin.2.2 k q with r | r
            · rcases hf3 k r with r | r
              · exact .inl r
              · exact .inr (by omega)
            · exact .inr (by omega), HA.out⟩
end Go.Proofs.YtpldogmamifdpaaDoor

/- The law ArenaAgain: the walk. -/
import Derived.Test.YtpldogmamifdpaaDoorArena6
import Derived.Test.YtpldogmamifdpaaDoorLaw11
import Derived.Test.YtpldogmamifdpaaDoorSame06
import Derived.Deep.RegionHeld3
set_option linter.unusedVariables false
set_option linter.unusedSimpArgs false
namespace Go.Proofs.YtpldogmamifdpaaDoor
open Go Go.RowKit

theorem cnt_none (n : Nat) : ∀ m, cntTo (List.replicate n false) m = 0
  | 0 => rfl
  | m + 1 => by
    show cntTo (List.replicate n false) m + (if (List.replicate n false).getD m false = true then 1 else 0) = 0
    rw [cnt_none n m, show (List.replicate n false).getD m false = false by simp [List.getD_eq_getElem?_getD, List.getElem?_replicate]; split <;> rfl]
    rfl

theorem no_lt (n : Nat) : ∀ k, No k → k < n := fun _ q => False.elim q

/-- What stands while it is asked whether all is clear. -/
structure HeldG (w0 : World) (base b s p p0 g m h Ba : Nat) (x : List Bool) (V : List Int) (w' : World) : Prop where
  ar : ArenaAt w' base b (.pointer (some ⟨s, 0, none⟩)) p (-1) 16 (.slice none 0 0) (.slice none 0 0) [] []
  pg : PagesAt w' s p0 g m h x V
  bx : w'.cell? ⟨Ba, 0, none⟩ = some (.pointer (some ⟨b, 0, none⟩))
  ch : Ch No w0 w'
theorem HeldG.ch0 {w0 : World} {base b s p p0 g m h Ba : Nat} {x : List Bool} {V : List Int} {w' w'' : World} (k : HeldG w0 base b s p p0 g m h Ba x V w') (hc : Ch No w' w'') : HeldG w0 base b s p p0 g m h Ba x V w'' := ⟨k.ar.ch0 hc, k.pg.ch0 hc, hc.cell k.bx (fun q => q), k.ch.trans hc⟩
theorem HeldG.c2 {w0 : World} {base b s p p0 g m h Ba : Nat} {x : List Bool} {V : List Int} {w' : World} (k : HeldG w0 base b s p p0 g m h Ba x V w') : w'.cell? ⟨b, 2, none⟩ = some (.slice none 0 0) := cellOf k.ar.head 2 rfl
theorem HeldG.full {w0 : World} {base b s p p0 g m h Ba : Nat} {x : List Bool} {V : List Int} {w' : World} (k : HeldG w0 base b s p p0 g m h Ba x V w') :
    (w'.cell? ⟨Ba, 0, none⟩ = some (.pointer (some ⟨b, 0, none⟩)) ∧ w'.cell? ⟨s, 0, none⟩ = some (.pointer (some ⟨p0, 0, none⟩))) ∧ HeldG w0 base b s p p0 g m h Ba x V w' := ⟨⟨k.bx, k.pg.c0⟩, k⟩

set_option maxRecDepth 100000 in
set_option maxHeartbeats 8000000 in
theorem again11 (w : World) (n : Int) (a : Option Addr) (c : Nat) (l : List Int) (hsl0 : SlR (intRp .i64) No w a c l) (hn : Nw w) (hn0 : 0 ≤ n ∧ n ≤ 255) (hl : l.length ≤ 9223372036854775807) :
    Calls Tryd.prog 4 #[.int .u8 n, .slice a l.length c] w fun e w' => e = .returned (.bool true) ∧ Ch No w w' := by
  have hnl := hn.lt
  obtain ⟨wB, hwB⟩ : ∃ z, z = w.alloc (.cells #[.slice a l.length c] 31) := ⟨_, rfl⟩
  have hcB : Ch No w wB := by rw [hwB]; exact (Ch.refl _ _).alloc _
  have hszB : wB.heap.size = w.heap.size + 1 := by rw [hwB]; simp
  have csB : wB.cell? ⟨w.heap.size, 0, none⟩ = some (.slice a l.length c) := by rw [hwB]; exact cellOf (World.alloc_heap_new _ _) 0 rfl
  have hnB := hn.ch hcB (fun q => q)
  have HWB := Lib.hid hwB
  clear hwB
  by_cases hcut : 60 < l.length
  · have b3 : decide ((l.length : Int) > 60) = true := decide_eq_true (by omega)
    go_enter Tryd.func4, Tryd.ntmps4
    go_wp2_with fail
    rw [← HWB.out]
    with_reducible refine (fixed11 wB hnB).mono ?_
    rintro e w1 ⟨rfl, hc⟩
    dsimp only
    go_wp2_with fail
    go_ret
    exact ⟨rfl, hcB.trans hc⟩
  · have b3 : decide ((l.length : Int) > 60) = false := decide_eq_false (by omega)
    have hl60 : l.length ≤ 60 := by omega
    clear hcut hl
    obtain ⟨N, hN⟩ : ∃ N : Nat, N = (1 + n % 60).toNat := ⟨_, rfl⟩
    have hN1 : 1 ≤ N ∧ N ≤ 60 := by omega
    have e1 : IntKind.i64.wrap n = n := IntWalk.i64_in _ (by omega)
    have e2 : n.tmod 60 = n % 60 := Int.tmod_eq_emod_of_nonneg hn0.1
    have e3 : IntKind.i64.wrap (n % 60) = n % 60 := IntWalk.i64_in _ (by omega)
    have e4 : IntKind.i64.wrap (1 + n % 60) = (N : Int) := by rw [IntWalk.i64_in _ (by omega)]; omega
    obtain ⟨q60, hq60⟩ : ∃ z, z = n % 60 := ⟨_, rfl⟩
    rw [← hq60] at e2 e3 e4
    clear hN hq60
    have hnew := pages_New wB N hN1.1 (by omega)
    have hslW : ∀ W', Ch (fun k => w.heap.size ≤ k) w W' → SlR (intRp .i64) (fun k => w.heap.size ≤ k) W' a c l := fun W' hc => (hsl0.more (fun k q => .inr q)).ch hc (fun _ q => q)
    have toN : ∀ W', Ch (fun k => w.heap.size ≤ k) w W' → Ch No w W' := fun W' hc => (Ch.refl No w).andThen hc (fun k hk => .inr hk)
    go_enter Tryd.func4, Tryd.ntmps4
    go_wp2_with fail
    rw [← HWB.out]
    with_reducible refine hnew.mono ?_
    rintro e w1 ⟨s, p0, g, m, h', rfl, k1, hs, hp, hg, hm, hh, hc1⟩
    obtain ⟨x0, hx0⟩ : ∃ z, z = List.replicate N false := ⟨_, rfl⟩
    obtain ⟨W0, hW0⟩ : ∃ z, z = List.replicate (16 * N) (0 : Int) := ⟨_, rfl⟩
    have hx0l : x0.length = N := by rw [hx0, List.length_replicate]
    have hal0 : Alone x0 [] := by rw [hx0]; exact alone0 N
    have hcn0 : cntTo x0 x0.length = 0 := by rw [hx0]; exact cnt_none N _
    rw [← hx0, ← hW0] at k1
    have HX0 := Lib.hid hx0
    have hk1l := k1.lt
    have hn1 := hnB.ch hc1 (fun q => q)
    have hs1 := hc1.size
    clear hx0 hW0 hnew e1 e2 e3 e4
    obtain ⟨base, hbase⟩ : ∃ z, z = w1.heap.size := ⟨_, rfl⟩
    dsimp only
    go_wp2_with fail
    with_reducible refine (arena_New w1 base (.pointer (some ⟨s, 0, none⟩)) hn1 (by omega) (.inr ⟨s, rfl⟩)).mono ?_
    rintro e w2 ⟨b, p, rfl, a2, hb2, hp2, hc2⟩
    have hs2 := hc2.size
    have a2f := a2.foot_bd
    have hbl := a2f b (.inl rfl)
    have hpl := a2f p (.inr (.inl rfl))
    have hf0 : ∀ k, foot b p (.slice none 0 0) (.slice none 0 0) k → k = b ∨ k = p := by
      rintro k (q | q | q | q)
      · exact .inl q
      · exact .inr q
      · simp [Value.ownBlock] at q
      · simp [Value.ownBlock] at q
    dsimp only
    go_wp2_with fail
    obtain ⟨Ba, hBa⟩ : ∃ z, z = w2.heap.size := ⟨_, rfl⟩
    obtain ⟨w3, hw3⟩ : ∃ z, z = w2.alloc (.cells #[.pointer (some ⟨b, 0, none⟩)] 22) := ⟨_, rfl⟩
    have hal3 : Ch No w2 w3 := by rw [hw3]; exact (Ch.refl _ _).alloc _
    have ca3 : w3.cell? ⟨Ba, 0, none⟩ = some (.pointer (some ⟨b, 0, none⟩)) := by rw [hw3, hBa]; exact cellOf (World.alloc_heap_new _ _) 0 rfl
    have hs3 : w3.heap.size = Ba + 1 := by rw [hw3, hBa]; simp
    rw [← hBa, ← hw3]
    have hcw3 : Ch No w w3 := ((hcB.trans hc1).trans hc2).trans hal3
    obtain ⟨w4, hw4⟩ : ∃ z, z = w3.drew := ⟨_, rfl⟩
    have hdr : Ch No w3 w4 := by rw [hw4]; exact (Ch.refl _ _).drew
    have hs4 : w4.heap.size = w3.heap.size := by rw [hw4]; rfl
    have a4 := ((a2.ch0 hal3).ch0 hdr)
    have k4 := ((k1.ch0 hc2).ch0 hal3).ch0 hdr
    have hn4 := ((hn1.ch hc2 (fun q => q)).ch hal3 (fun q => q)).ch hdr (fun q => q)
    have hca0 := hdr.cell ca3 (fun q => q)
    have hcw4 := hcw3.trans hdr
    have cs4 := (((hc1.trans hc2).trans hal3).trans hdr).cell csB (fun q => q)
    have hG4 : Ch (fun k => w.heap.size ≤ k) w w4 := hcw4.ofNo
    have hnb : 0 < base ∧ 0 ≠ g ∧ 0 ≠ h' := by omega
    have hpl1 := place11 w4 base b p s p0 g m h' w.heap.size Ba _ _ ⟨x0, -1, 16, [], []⟩ W0 a c l a4 k4 hn4 (fun k q => by rcases hf0 k q with q | q <;> omega) hnb hl60 (by simp) (by simp)
      ((hslW w4 hG4).more (fun k q => .inl (by
        show w.heap.size ≤ k
        rcases q with q | q | q
        · rcases hf0 k q with q | q <;> omega
        · omega
        · omega))) cs4 hca0 ⟨fun q => by rcases hf0 _ q with q | q <;> omega, by omega, by omega⟩ ⟨fun q => by rcases hf0 _ q with q | q <;> omega, by omega, by omega⟩
    have hBaG : ¬ (fun k => foot b p (.slice none 0 0) (.slice none 0 0) k ∨ k = g ∨ k = h') Ba := fun q => by
      rcases q with q | q | q
      · rcases hf0 _ q with q | q <;> omega
      · omega
      · omega
    have hFF : ∀ k, (fun k => k = b ∨ k = g ∨ k = h') k → k < w3.drew.heap.size := fun k q => by
      show k < w3.heap.size
      rcases q with q | q | q <;> omega
    have hBle : w2.heap.size ≤ Ba := by omega
    have hBsG : ¬ (fun k => foot b p (.slice none 0 0) (.slice none 0 0) k ∨ k = g ∨ k = h') w.heap.size := fun q => by
      rcases q with q | q | q
      · rcases hf0 _ q with q | q <;> omega
      · omega
      · omega
    have HW4 := Lib.hid hw4
    clear hw3 hBa hw4
    go_wp2_with fail
    rw [HW4.out] at hpl1 hca0
    refine wp_region_held_drew (S := (fun w' : World => w'.cell? ⟨Ba, 0, none⟩ = some (.pointer (some ⟨b, 0, none⟩)))) (by kernel_rfl) hca0 (fun hHeld => ?_)
    refine wpAnyH_take (i := 0) (v := ?_) (by simp only [List.getElem?_toArray, List.getElem?_cons_zero, List.getElem?_cons_succ]; exact rfl) (by kernel_rfl) (by kernel_rfl) (by kernel_rfl) (by intro _ _ _ h; exact h) (Or.inl ⟨by rfl, ?_⟩) (by assumption) ?_
    rotate_left
    · intro w hSw
      (try dsimp only at hSw)
      go_simp
      try (with_reducible rfl)
    try simp only [Act.put, List.setIfInBounds_toArray, List.set_cons_zero, List.set_cons_succ]
    refine wpAnyH_take (i := 2) (v := ?_) (by simp only [List.getElem?_toArray, List.getElem?_cons_zero, List.getElem?_cons_succ]; exact rfl) (by kernel_rfl) (by kernel_rfl) (by kernel_rfl) (by intro _ _ _ h; exact h) (Or.inl ⟨by rfl, ?_⟩) (by assumption) ?_
    rotate_left
    · intro w hSw
      (try dsimp only at hSw)
      go_simp
      try (with_reducible rfl)
    try simp only [Act.put, List.setIfInBounds_toArray, List.set_cons_zero, List.set_cons_succ]
    refine wpAnyH_ready (rs := [1]) (by kernel_rfl) (by simp) ?_
    refine AllReadyH.cons (by simp only [List.getElem?_toArray, List.getElem?_cons_zero, List.getElem?_cons_succ]; exact rfl) (fun K hK => ?_) AllReadyH.nil
    go_simp
    (go_at_call 15; with_reducible refine hpl1.mono ?_; rintro e w9 ⟨v1, out1, rv1, tv1, s1, V1, rfl, ho9, ha9, hk9, hc9, hf9, hof9, hre9⟩; have hca9 := hc9.cell hca0 hBaG; obtain ⟨q1, cq1, rfl, hs1⟩ := (ho9.pairs_any (fun k => k = b ∨ k = g ∨ k = h')).sl hFF; (try dsimp only))
    try go_wp2_with fail
    refine hK.out _ _ ?_ (fun hHeld => ?_)
    · try dsimp only
      first | assumption | exact (by assumption) | fail
    clear hK K
    try simp only [Act.put, List.setIfInBounds_toArray, List.set_cons_zero, List.set_cons_succ]
    refine wpAnyH_ready (rs := [3]) (by kernel_rfl) (by simp) ?_
    refine AllReadyH.cons (by simp only [List.getElem?_toArray, List.getElem?_cons_zero, List.getElem?_cons_succ]; exact rfl) (fun K hK => ?_) AllReadyH.nil
    go_simp
    (go_at_call 16; with_reducible refine (arena_Things (fun k => k = b ∨ k = g ∨ k = h') w9 base b _ p _ _ _ _ _ _ ha9 (by have := hre9.bd; simp at this; omega) (fun k q => by have h1 := hFF k q; have h2 := hc9.size; exact Nat.lt_of_lt_of_le h1 h2)).mono ?_; rintro e w10 ⟨q2, cq2, rfl, hs2, hc10⟩; have hca10 := hc10.cell hca9 (fun q => q); (try dsimp only))
    try go_wp2_with fail
    refine hK.out _ _ ?_ (fun hHeld => ?_)
    · try dsimp only
      first | assumption | exact (by assumption) | fail
    clear hK K
    try simp only [Act.put, List.setIfInBounds_toArray, List.set_cons_zero, List.set_cons_succ]
    refine wpAnyH_take (i := 4) (v := ?_) (by simp only [List.getElem?_toArray, List.getElem?_cons_zero, List.getElem?_cons_succ]; exact rfl) (by kernel_rfl) (by kernel_rfl) (by kernel_rfl) (by intro _ _ _ h; exact h) (Or.inl ⟨by rfl, ?_⟩) (by assumption) ?_
    rotate_left
    · intro w hSw
      (try dsimp only at hSw)
      go_simp
      try (with_reducible rfl)
    try simp only [Act.put, List.setIfInBounds_toArray, List.set_cons_zero, List.set_cons_succ]
    refine wpAnyH_take (i := 5) (v := ?_) (by simp only [List.getElem?_toArray, List.getElem?_cons_zero, List.getElem?_cons_succ]; exact rfl) (by kernel_rfl) (by kernel_rfl) (by kernel_rfl) (by intro _ _ _ h; exact h) (Or.inl ⟨by rfl, ?_⟩) (by assumption) ?_
    rotate_left
    · intro w hSw
      (try dsimp only at hSw)
      go_simp
      try (with_reducible rfl)
    try simp only [Act.put, List.setIfInBounds_toArray, List.set_cons_zero, List.set_cons_succ]
    refine wpAnyH_done (by kernel_rfl) ?_ _
    rw [← HW4.out] at hc9 hf9 ho9 hca0
    have hbd9 := hre9.bd
    simp only [List.length_nil, Nat.zero_add] at hbd9
    have hRb : s1.R.length ≤ 60 := by omega
    have hTb : s1.T.length ≤ 60 := by omega
    have hOb : out1.length ≤ 60 := by omega
    have HXL := Lib.hid hbd9.2.2.2
    clear hbd9
    have hst1 := hc9.size
    have hst2 := hc10.size
    have hp9 := ha9.foot_bd
    have ha10 := ha9.ch0 hc10
    have hk10 := hk9.ch0 hc10
    have hn10 := (hn4.ch hc9 (fun q => by
      rcases q with q | q | q
      · rcases hf0 _ q with q | q <;> omega
      · omega
      · omega)).ch hc10 (fun q => q)
    have hG10 := (hG4.andThen hc9 (fun k q => by
      rcases q with q | q | q
      · rcases hf0 _ q with q | q
        · exact .inl (by show w.heap.size ≤ k; omega)
        · exact .inl (by show w.heap.size ≤ k; omega)
      · exact .inl (by show w.heap.size ≤ k; omega)
      · exact .inl (by show w.heap.size ≤ k; omega))).then0 hc10
    have cs10 := hc10.cell (hc9.cell cs4 hBsG) (fun q => q)
    have hs1 := (hs1.ch0 hc10).more (F' := fun k => k = b ∨ k = g ∨ k = h' ∨ w10.heap.size ≤ k) (fun k q => by
      rcases q with q | q | q | q
      · exact .inl (.inl q)
      · exact .inl (.inr (.inl q))
      · exact .inl (.inr (.inr q))
      · exact .inr q)
    have hs2 := hs2.more (F' := fun k => k = b ∨ k = g ∨ k = h' ∨ w10.heap.size ≤ k) (fun k q => by
      rcases q with q | q | q | q
      · exact .inl (.inl q)
      · exact .inl (.inr (.inl q))
      · exact .inl (.inr (.inr q))
      · exact .inr q)
    have hal9 := hre9.alone hal0
    have hgb9 : givenBack s1.x s1.R = x0 := by rw [givenBack_alone _ _ hal9, HX0.out, HXL.out, hx0l]
    have hrel := arena_Release w10 base b p s p0 g m h' _ _ _ _ _ _ _ _ ha10 hk10 hn10 (by omega) (by omega) hal9.1 (fun k q => by
      rcases hf9 k q with r | r
      · rcases hf0 _ r with r | r <;> omega
      · omega) hnb
    rw [hgb9] at hrel
    have HRE := Lib.hid hre9
    have HPL := Lib.hid hpl1
    clear hre9 hgb9 hal9 hpl1 ho9 hof9
    go_wp2_with fail
    with_reducible refine hrel.mono ?_
    rintro e w11 ⟨p2, rfl, ha11, hp2', hk11, hc11⟩
    have hst3 := hc11.size
    have hp11 := ha11.foot_bd
    have hn11 := hn10.ch hc11 (fun q => by rcases q with q | q <;> omega)
    have hca11 := hc11.cell hca10 (fun q => by have q' : Ba = b ∨ Ba = g := q; omega)
    have cs11 := hc11.cell cs10 (fun q => by have q' : w.heap.size = b ∨ w.heap.size = g := q; omega)
    have hs1 := hs1.ch hc11 (fun k q => by rcases q with q | q; exact .inl q; exact .inr (.inl q))
    have hs2 := hs2.ch hc11 (fun k q => by rcases q with q | q; exact .inl q; exact .inr (.inl q))
    have hG11 := hG10.andThen hc11 (fun k q => by rcases q with q | q <;> exact .inl (by show w.heap.size ≤ k; omega))
    clear hrel
    dsimp only
    obtain ⟨wd, hwd⟩ : ∃ z, z = w11.drew := ⟨_, rfl⟩
    have hdr2 : Ch No w11 wd := by rw [hwd]; exact (Ch.refl _ _).drew
    have hG0 : HeldG w11 base b s p2 p0 g m h' Ba x0 V1 wd := ⟨ha11.ch0 hdr2, hk11.ch0 hdr2, hdr2.cell hca11 (fun q => q), hdr2⟩
    have hfr : ∀ W', PagesAt W' s p0 g m h' x0 V1 → Calls Tryd.prog 18 #[.pointer (some ⟨s, 0, none⟩)] W' fun e w' => e = .returned (.int .i64 N) ∧ Ch No W' w' := fun W' k => by
      have := pages_Free W' s p0 g m h' x0 V1 k
      rw [hcn0, hx0l] at this
      simpa using this
    have hln : ∀ W', PagesAt W' s p0 g m h' x0 V1 → Calls Tryd.prog 19 #[.pointer (some ⟨p0, 0, none⟩)] W' fun e w' => e = .returned (.int .i64 N) ∧ W' = w' := fun W' k => by
      have := bits_Len W' p0 g x0 k.row
      rw [hx0l] at this
      exact this
    have ew0 : IntKind.i64.wrap 0 = 0 := by decide
    have HWD := Lib.hid hwd
    clear hwd
    go_wp2_with fail
    rw [HWD.out] at hG0
    refine wp_region_held_drew (S := (fun w' : World => (w'.cell? ⟨Ba, 0, none⟩ = some (.pointer (some ⟨b, 0, none⟩)) ∧ w'.cell? ⟨s, 0, none⟩ = some (.pointer (some ⟨p0, 0, none⟩))) ∧ HeldG w11 base b s p2 p0 g m h' Ba x0 V1 w')) (by kernel_rfl) (HeldG.full hG0) (fun hHeld => ?_)
    refine wpAnyH_take (i := 0) (v := ?_) (by simp only [List.getElem?_toArray, List.getElem?_cons_zero, List.getElem?_cons_succ]; exact rfl) (by kernel_rfl) (by kernel_rfl) (by kernel_rfl) (by intro _ _ _ h; exact h) (Or.inl ⟨by rfl, ?_⟩) (by assumption) ?_
    rotate_left
    · intro w hSw
      (try dsimp only at hSw)
      go_simp
      try (with_reducible rfl)
    try simp only [Act.put, List.setIfInBounds_toArray, List.set_cons_zero, List.set_cons_succ]
    refine wpAnyH_ready (rs := [1]) (by kernel_rfl) (by simp) ?_
    refine AllReadyH.cons (by simp only [List.getElem?_toArray, List.getElem?_cons_zero, List.getElem?_cons_succ]; exact rfl) (fun K hK => ?_) AllReadyH.nil
    go_simp
    (go_at_call 12; with_reducible refine (arena_Pages0 _ b none 0 (HeldG.c2 (And.right (by assumption)))).mono ?_; rintro e w9 ⟨rfl, hc9⟩; have hG9 := HeldG.ch0 (And.right (by assumption)) hc9; (try dsimp only))
    try go_wp2_with fail
    refine hK.out _ _ ?_ (fun hHeld => ?_)
    · try dsimp only
      first | assumption | exact HeldG.full (by assumption) | fail
    clear hK K
    try simp only [Act.put, List.setIfInBounds_toArray, List.set_cons_zero, List.set_cons_succ]
    refine wpAnyH_take (i := 2) (v := ?_) (by simp only [List.getElem?_toArray, List.getElem?_cons_zero, List.getElem?_cons_succ]; exact rfl) (by kernel_rfl) (by kernel_rfl) (by kernel_rfl) (by intro _ _ _ h; exact h) (Or.inl ⟨by rfl, ?_⟩) (by assumption) ?_
    rotate_left
    · intro w hSw
      (try dsimp only at hSw)
      go_simp
      try (with_reducible rfl)
    try simp only [Act.put, List.setIfInBounds_toArray, List.set_cons_zero, List.set_cons_succ]
    refine wpAnyH_take (i := 3) (v := ?_) (by simp only [List.getElem?_toArray, List.getElem?_cons_zero, List.getElem?_cons_succ]; exact rfl) (by kernel_rfl) (by kernel_rfl) (by kernel_rfl) (by intro _ _ _ h; exact h) (Or.inl ⟨by rfl, ?_⟩) (by assumption) ?_
    rotate_left
    · intro w hSw
      (try dsimp only at hSw)
      go_simp
      try (with_reducible rfl)
    try simp only [Act.put, List.setIfInBounds_toArray, List.set_cons_zero, List.set_cons_succ]
    refine wpAnyH_take (i := 4) (v := ?_) (by simp only [List.getElem?_toArray, List.getElem?_cons_zero, List.getElem?_cons_succ]; exact rfl) (by kernel_rfl) (by kernel_rfl) (by kernel_rfl) (by intro _ _ _ h; exact h) (Or.inl ⟨by rfl, ?_⟩) (by assumption) ?_
    rotate_left
    · intro w hSw
      (try dsimp only at hSw)
      go_simp
      try (with_reducible rfl)
    try simp only [Act.put, List.setIfInBounds_toArray, List.set_cons_zero, List.set_cons_succ]
    refine wpAnyH_take (i := 7) (v := ?_) (by simp only [List.getElem?_toArray, List.getElem?_cons_zero, List.getElem?_cons_succ]; exact rfl) (by kernel_rfl) (by kernel_rfl) (by kernel_rfl) (by intro _ _ _ h; exact h) (Or.inl ⟨by rfl, ?_⟩) (by assumption) ?_
    rotate_left
    · intro w hSw
      (try dsimp only at hSw)
      go_simp
      try (with_reducible rfl)
    try simp only [Act.put, List.setIfInBounds_toArray, List.set_cons_zero, List.set_cons_succ]
    refine wpAnyH_ready (rs := [5]) (by kernel_rfl) (by simp) ?_
    refine AllReadyH.cons (by simp only [List.getElem?_toArray, List.getElem?_cons_zero, List.getElem?_cons_succ]; exact rfl) (fun K hK => ?_) AllReadyH.nil
    go_simp
    (go_at_call 17; with_reducible refine (arena_Runs No _ base b _ p2 _ _ _ _ _ _ (HeldG.ar (And.right (by assumption))) (by simp) (no_lt _)).mono ?_; rintro e w9 ⟨qr, cr, rfl, _, hc9⟩; have hG9 := HeldG.ch0 (And.right (by assumption)) hc9; (try dsimp only))
    try go_wp2_with fail
    refine hK.out _ _ ?_ (fun hHeld => ?_)
    · try dsimp only
      first | assumption | exact HeldG.full (by assumption) | fail
    clear hK K
    try simp only [Act.put, List.setIfInBounds_toArray, List.set_cons_zero, List.set_cons_succ]
    refine wpAnyH_take (i := 6) (v := ?_) (by simp only [List.getElem?_toArray, List.getElem?_cons_zero, List.getElem?_cons_succ]; exact rfl) (by kernel_rfl) (by kernel_rfl) (by kernel_rfl) (by intro _ _ _ h; exact h) (Or.inl ⟨by rfl, ?_⟩) (by assumption) ?_
    rotate_left
    · intro w hSw
      (try dsimp only at hSw)
      go_simp
      try (with_reducible rfl)
    try simp only [Act.put, List.setIfInBounds_toArray, List.set_cons_zero, List.set_cons_succ]
    refine wpAnyH_ready (rs := [8]) (by kernel_rfl) (by simp) ?_
    refine AllReadyH.cons (by simp only [List.getElem?_toArray, List.getElem?_cons_zero, List.getElem?_cons_succ]; exact rfl) (fun K hK => ?_) AllReadyH.nil
    go_simp
    (go_at_call 16; with_reducible refine (arena_Things No _ base b _ p2 _ _ _ _ _ _ (HeldG.ar (And.right (by assumption))) (by simp) (no_lt _)).mono ?_; rintro e w9 ⟨qt, ct, rfl, _, hc9⟩; have hG9 := HeldG.ch0 (And.right (by assumption)) hc9; (try dsimp only))
    try go_wp2_with fail
    refine hK.out _ _ ?_ (fun hHeld => ?_)
    · try dsimp only
      first | assumption | exact HeldG.full (by assumption) | fail
    clear hK K
    try simp only [Act.put, List.setIfInBounds_toArray, List.set_cons_zero, List.set_cons_succ]
    refine wpAnyH_take (i := 9) (v := ?_) (by simp only [List.getElem?_toArray, List.getElem?_cons_zero, List.getElem?_cons_succ]; exact rfl) (by kernel_rfl) (by kernel_rfl) (by kernel_rfl) (by intro _ _ _ h; exact h) (Or.inl ⟨by rfl, ?_⟩) (by assumption) ?_
    rotate_left
    · intro w hSw
      (try dsimp only at hSw)
      go_simp
      try (with_reducible rfl)
    try simp only [Act.put, List.setIfInBounds_toArray, List.set_cons_zero, List.set_cons_succ]
    refine wpAnyH_take (i := 10) (v := ?_) (by simp only [List.getElem?_toArray, List.getElem?_cons_zero, List.getElem?_cons_succ]; exact rfl) (by kernel_rfl) (by kernel_rfl) (by kernel_rfl) (by intro _ _ _ h; exact h) (Or.inl ⟨by rfl, ?_⟩) (by assumption) ?_
    rotate_left
    · intro w hSw
      (try dsimp only at hSw)
      go_simp
      try (with_reducible rfl)
    try simp only [Act.put, List.setIfInBounds_toArray, List.set_cons_zero, List.set_cons_succ]
    refine wpAnyH_take (i := 11) (v := ?_) (by simp only [List.getElem?_toArray, List.getElem?_cons_zero, List.getElem?_cons_succ]; exact rfl) (by kernel_rfl) (by kernel_rfl) (by kernel_rfl) (by intro _ _ _ h; exact h) (Or.inl ⟨by rfl, ?_⟩) (by assumption) ?_
    rotate_left
    · intro w hSw
      (try dsimp only at hSw)
      go_simp
      try (with_reducible rfl)
    try simp only [Act.put, List.setIfInBounds_toArray, List.set_cons_zero, List.set_cons_succ]
    refine wpAnyH_take (i := 12) (v := ?_) (by simp only [List.getElem?_toArray, List.getElem?_cons_zero, List.getElem?_cons_succ]; exact rfl) (by kernel_rfl) (by kernel_rfl) (by kernel_rfl) (by intro _ _ _ h; exact h) (Or.inl ⟨by rfl, ?_⟩) (by assumption) ?_
    rotate_left
    · intro w hSw
      (try dsimp only at hSw)
      go_simp
      try (with_reducible rfl)
    try simp only [Act.put, List.setIfInBounds_toArray, List.set_cons_zero, List.set_cons_succ]
    refine wpAnyH_take (i := 13) (v := ?_) (by simp only [List.getElem?_toArray, List.getElem?_cons_zero, List.getElem?_cons_succ]; exact rfl) (by kernel_rfl) (by kernel_rfl) (by kernel_rfl) (by intro _ _ _ h; exact h) (Or.inl ⟨by rfl, ?_⟩) (by assumption) ?_
    rotate_left
    · intro w hSw
      (try dsimp only at hSw)
      go_simp
      try (with_reducible rfl)
    try simp only [Act.put, List.setIfInBounds_toArray, List.set_cons_zero, List.set_cons_succ]
    refine wpAnyH_take (i := 14) (v := ?_) (by simp only [List.getElem?_toArray, List.getElem?_cons_zero, List.getElem?_cons_succ]; exact rfl) (by kernel_rfl) (by kernel_rfl) (by kernel_rfl) (by intro _ _ _ h; exact h) (Or.inl ⟨by rfl, ?_⟩) (by assumption) ?_
    rotate_left
    · intro w hSw
      (try dsimp only at hSw)
      go_simp
      try (with_reducible rfl)
    try simp only [Act.put, List.setIfInBounds_toArray, List.set_cons_zero, List.set_cons_succ]
    refine wpAnyH_take (i := 16) (v := ?_) (by simp only [List.getElem?_toArray, List.getElem?_cons_zero, List.getElem?_cons_succ]; exact rfl) (by kernel_rfl) (by kernel_rfl) (by kernel_rfl) (by intro _ _ _ h; exact h) (Or.inl ⟨by rfl, ?_⟩) (by assumption) ?_
    rotate_left
    · intro w hSw
      (try dsimp only at hSw)
      go_simp
      try (with_reducible rfl)
    try simp only [Act.put, List.setIfInBounds_toArray, List.set_cons_zero, List.set_cons_succ]
    refine wpAnyH_take (i := 17) (v := ?_) (by simp only [List.getElem?_toArray, List.getElem?_cons_zero, List.getElem?_cons_succ]; exact rfl) (by kernel_rfl) (by kernel_rfl) (by kernel_rfl) (by intro _ _ _ h; exact h) (Or.inl ⟨by rfl, ?_⟩) (by assumption) ?_
    rotate_left
    · intro w hSw
      (try dsimp only at hSw)
      go_simp
      try (with_reducible rfl)
    try simp only [Act.put, List.setIfInBounds_toArray, List.set_cons_zero, List.set_cons_succ]
    refine wpAnyH_take (i := 18) (v := ?_) (by simp only [List.getElem?_toArray, List.getElem?_cons_zero, List.getElem?_cons_succ]; exact rfl) (by kernel_rfl) (by kernel_rfl) (by kernel_rfl) (by intro _ _ _ h; exact h) (Or.inl ⟨by rfl, ?_⟩) (by assumption) ?_
    rotate_left
    · intro w hSw
      (try dsimp only at hSw)
      go_simp
      try (with_reducible rfl)
    try simp only [Act.put, List.setIfInBounds_toArray, List.set_cons_zero, List.set_cons_succ]
    refine wpAnyH_take (i := 19) (v := ?_) (by simp only [List.getElem?_toArray, List.getElem?_cons_zero, List.getElem?_cons_succ]; exact rfl) (by kernel_rfl) (by kernel_rfl) (by kernel_rfl) (by intro _ _ _ h; exact h) (Or.inl ⟨by rfl, ?_⟩) (by assumption) ?_
    rotate_left
    · intro w hSw
      (try dsimp only at hSw)
      go_simp
      try (with_reducible rfl)
    try simp only [Act.put, List.setIfInBounds_toArray, List.set_cons_zero, List.set_cons_succ]
    refine wpAnyH_take (i := 20) (v := ?_) (by simp only [List.getElem?_toArray, List.getElem?_cons_zero, List.getElem?_cons_succ]; exact rfl) (by kernel_rfl) (by kernel_rfl) (by kernel_rfl) (by intro _ _ _ h; exact h) (Or.inl ⟨by rfl, ?_⟩) (by assumption) ?_
    rotate_left
    · intro w hSw
      (try dsimp only at hSw)
      go_simp
      try (with_reducible rfl)
    try simp only [Act.put, List.setIfInBounds_toArray, List.set_cons_zero, List.set_cons_succ]
    refine wpAnyH_ready (rs := [15]) (by kernel_rfl) (by simp) ?_
    refine AllReadyH.cons (by simp only [List.getElem?_toArray, List.getElem?_cons_zero, List.getElem?_cons_succ]; exact rfl) (fun K hK => ?_) AllReadyH.nil
    go_simp
    (go_at_call 18; with_reducible refine (hfr _ (HeldG.pg (And.right (by assumption)))).mono ?_; rintro e w9 ⟨rfl, hc9⟩; have hG9 := HeldG.ch0 (And.right (by assumption)) hc9; (try dsimp only))
    try go_wp2_with fail
    refine hK.out _ _ ?_ (fun hHeld => ?_)
    · try dsimp only
      first | assumption | exact HeldG.full (by assumption) | fail
    clear hK K
    try simp only [Act.put, List.setIfInBounds_toArray, List.set_cons_zero, List.set_cons_succ]
    refine wpAnyH_ready (rs := [21]) (by kernel_rfl) (by simp) ?_
    refine AllReadyH.cons (by simp only [List.getElem?_toArray, List.getElem?_cons_zero, List.getElem?_cons_succ]; exact rfl) (fun K hK => ?_) AllReadyH.nil
    go_simp
    (go_at_call 19; with_reducible refine (hln _ (HeldG.pg (And.right (by assumption)))).mono ?_; rintro e w9 ⟨rfl, rfl⟩; (try dsimp only))
    try go_wp2_with fail
    refine hK.out _ _ ?_ (fun hHeld => ?_)
    · try dsimp only
      first | assumption | exact HeldG.full (by assumption) | fail
    clear hK K
    try simp only [Act.put, List.setIfInBounds_toArray, List.set_cons_zero, List.set_cons_succ]
    refine wpAnyH_take (i := 22) (v := ?_) (by simp only [List.getElem?_toArray, List.getElem?_cons_zero, List.getElem?_cons_succ]; exact rfl) (by kernel_rfl) (by kernel_rfl) (by kernel_rfl) (by intro _ _ _ h; exact h) (Or.inl ⟨by rfl, ?_⟩) (by assumption) ?_
    rotate_left
    · intro w hSw
      (try dsimp only at hSw)
      go_simp
      try (with_reducible rfl)
    try simp only [Act.put, List.setIfInBounds_toArray, List.set_cons_zero, List.set_cons_succ]
    refine wpAnyH_take (i := 23) (v := ?_) (by simp only [List.getElem?_toArray, List.getElem?_cons_zero, List.getElem?_cons_succ]; exact rfl) (by kernel_rfl) (by kernel_rfl) (by kernel_rfl) (by intro _ _ _ h; exact h) (Or.inl ⟨by rfl, ?_⟩) (by assumption) ?_
    rotate_left
    · intro w hSw
      (try dsimp only at hSw)
      go_simp
      try (with_reducible rfl)
    try simp only [Act.put, List.setIfInBounds_toArray, List.set_cons_zero, List.set_cons_succ]
    refine wpAnyH_take (i := 24) (v := ?_) (by simp only [List.getElem?_toArray, List.getElem?_cons_zero, List.getElem?_cons_succ]; exact rfl) (by kernel_rfl) (by kernel_rfl) (by kernel_rfl) (by intro _ _ _ h; exact h) (Or.inl ⟨by rfl, ?_⟩) (by assumption) ?_
    rotate_left
    · intro w hSw
      (try dsimp only at hSw)
      go_simp
      try (with_reducible rfl)
    try simp only [Act.put, List.setIfInBounds_toArray, List.set_cons_zero, List.set_cons_succ]
    refine wpAnyH_done (by kernel_rfl) ?_ _
    obtain ⟨w12, hw12⟩ : ∃ z, z = w9 := ⟨_, rfl⟩
    rw [← hw12] at hG9 ⊢
    clear hw12
    have hc12 := hG9.ch
    have hst4 := hc12.size
    have hn12 := hn11.ch hc12 (fun q => q)
    have cs12 := hc12.cell cs11 (fun q => q)
    have hs1 := hs1.ch0 hc12
    have hs2 := hs2.ch0 hc12
    have hG12 := hG11.then0 hc12
    have hf1 : ∀ k, foot b p2 (.slice none 0 0) (.slice none 0 0) k → k = b ∨ k = p2 := by
      rintro k (q | q | q | q)
      · exact .inl q
      · exact .inr q
      · simp [Value.ownBlock] at q
      · simp [Value.ownBlock] at q
    have hap2 := hp11 p2 (.inr (.inl rfl))
    have hpl2 := place11 w12 base b p2 s p0 g m h' w.heap.size Ba _ _ ⟨x0, -1, 16, [], []⟩ V1 a c l hG9.ar hG9.pg hn12 (fun k q => by rcases hf1 k q with q | q <;> omega) hnb hl60 (by simp) (by simp)
      ((hslW w12 hG12).more (fun k q => .inl (by
        show w.heap.size ≤ k
        rcases q with q | q | q
        · rcases hf1 k q with q | q <;> omega
        · omega
        · omega))) cs12 hG9.bx ⟨fun q => by rcases hf1 _ q with q | q <;> omega, by omega, by omega⟩ ⟨fun q => by rcases hf1 _ q with q | q <;> omega, by omega, by omega⟩
    go_wp2_with fail
    with_reducible refine hpl2.mono ?_
    rintro e w13 ⟨v2, out2, rv2, tv2, s2, V2, rfl, ho13, ha13, hk13, hc13, hf13, hof13, hre13⟩
    obtain ⟨rfl, rfl⟩ := Reach.uniq HRE.out hre13
    have hfn : ∀ k, (fun k => foot b p2 (.slice none 0 0) (.slice none 0 0) k ∨ k = g ∨ k = h') k → k = b ∨ k = g ∨ k = h' ∨ w10.heap.size ≤ k := fun k q => by
      rcases q with q | q | q
      · rcases hf1 k q with q | q
        · exact .inl q
        · exact .inr (.inr (.inr (by omega)))
      · exact .inr (.inl q)
      · exact .inr (.inr (.inl q))
    have hs1 := hs1.ch hc13 hfn
    have hs2 := hs2.ch hc13 hfn
    have hG13 := hG12.andThen hc13 (fun k q => .inl (by
      show w.heap.size ≤ k
      rcases hfn k q with q | q | q | q <;> omega))
    have hca13 := hc13.cell hG9.bx (fun q => by
      have q' := hfn Ba q
      rcases q with q | q | q
      · rcases hf1 _ q with q | q <;> omega
      · omega
      · omega)
    have hn13 := hn12.ch hc13 (fun q => by
      rcases q with q | q | q
      · rcases hf1 _ q with q | q <;> omega
      · omega
      · omega)
    obtain ⟨q3, cq3, rfl, hs3'⟩ := (ho13.pairs_any No).sl (no_lt _)
    clear hre13 hpl2
    dsimp only
    go_wp2_with fail
    with_reducible refine (fixed11 w13 hn13).mono ?_
    rintro e w14 ⟨rfl, hc14⟩
    have hs1 := hs1.ch0 hc14
    have hs2 := hs2.ch0 hc14
    have hs3' := hs3'.ch0 hc14
    have ha14 := ha13.ch0 hc14
    have hca14 := hc14.cell hca13 (fun q => q)
    have hsm1 := ref06_Same _ No w14 _ _ _ _ _ _ hs1 hs3' (by omega) (by omega)
    rw [show decide (out2 = out2) = true from decide_eq_true rfl] at hsm1
    dsimp only
    go_wp2_with fail
    with_reducible refine hsm1.mono ?_
    rintro e w15 ⟨rfl, hc15⟩
    have hs2 := hs2.ch0 hc15
    have ha15 := ha14.ch0 hc15
    have hca15 := hc15.cell hca14 (fun q => q)
    dsimp only
    go_wp2_with fail
    with_reducible refine (arena_Things No w15 base b _ p2 _ _ _ _ _ _ ha15 (by omega) (no_lt _)).mono ?_
    rintro e w16 ⟨q4, cq4, rfl, hs4', hc16⟩
    have hs2 := hs2.ch0 hc16
    have hsm2 := ref06_Same No _ w16 _ _ _ _ _ _ hs4' hs2 (by omega) (by omega)
    rw [show decide (s2.T = s2.T) = true from decide_eq_true rfl] at hsm2
    dsimp only
    go_wp2_with fail
    with_reducible refine hsm2.mono ?_
    rintro e w17 ⟨rfl, hc17⟩
    dsimp only
    go_wp2_with fail
    go_ret
    exact ⟨rfl, toN _ ((((hG13.then0 hc14).then0 hc15).then0 hc16).then0 hc17)⟩
end Go.Proofs.YtpldogmamifdpaaDoor

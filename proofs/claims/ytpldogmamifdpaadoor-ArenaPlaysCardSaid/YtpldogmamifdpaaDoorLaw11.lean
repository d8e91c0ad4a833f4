/- Layer 11's laws: the example; ArenaNone. -/
import Derived.Test.YtpldogmamifdpaaDoorArena3
set_option linter.unusedVariables false
set_option linter.unusedSimpArgs false
namespace Go.Proofs.YtpldogmamifdpaaDoor
open Go Go.RowKit

theorem AllocTo.fit {x : List Bool} {W : List Int} {pg us : Int} {R T : List (Int × Int)} {size a E : Int} {x' : List Bool} {W' : List Int} {pg' us' : Int} {R' T' : List (Int × Int)} (h : AllocTo x W pg us R T size a E x' W' pg' us' R' T') (hE : needE size = 0) (hN : needN us size = 0) :
    a = placeA pg us size 0 ∧ E = 0 ∧ x' = x ∧ W' = W ∧ pg' = (placeP pg us size 0).1 ∧ us' = (placeP pg us size 0).2 ∧ R' = R ∧ T' = T ++ [(a, size)] := by
  rcases h with h | h | h | h
  · have := h.1; omega
  · exact h.2.2
  · have := h.2.1; omega
  · have := h.2.1; omega
theorem AllocTo.new {x : List Bool} {W : List Int} {pg us : Int} {R T : List (Int × Int)} {size a E : Int} {x' : List Bool} {W' : List Int} {pg' us' : Int} {R' T' : List (Int × Int)} (h : AllocTo x W pg us R T size a E x' W' pg' us' R' T') (hE : needE size = 0) {N j : Nat} (hN : needN us size = N) (h1 : 1 ≤ N) (hf : IsFind x N (some j)) :
    a = placeA pg us size j ∧ E = 0 ∧ x' = markB x j true N ∧ W' = fillL W (16 * j) 0 (16 * N) ∧ pg' = (placeP pg us size j).1 ∧ us' = (placeP pg us size j).2 ∧ R' = R ++ [((j : Int), (N : Int))] ∧ T' = T ++ [(a, size)] := by
  rcases h with h | h | h | h
  · have := h.1; omega
  · have := h.2.1; omega
  · have h3 := h.2.2.1
    rw [hN, Int.toNat_natCast] at h3
    exact absurd (h3.uniq hf) (by simp)
  · obtain ⟨_, _, j', h3, h4⟩ := h
    rw [hN, Int.toNat_natCast] at h3
    obtain rfl := Option.some.inj (h3.uniq hf)
    rw [hN, Int.toNat_natCast] at h4
    exact h4

set_option maxRecDepth 100000 in
set_option maxHeartbeats 2000000 in
theorem fixed11 (w : World) (hn : Nw w) : Calls Tryd.prog 9 #[] w fun e w' => e = .returned (.bool true) ∧ Ch No w w' := by
  have hnl := hn.lt
  go_enter Tryd.func9, Tryd.ntmps9
  go_wp2_with fail
  refine (pages_New w 4 (by omega) (by omega)).mono ?_
  rintro e w1 ⟨s, p, g, m, h, rfl, k1, hs, hp, hg, hm, hh, hc1⟩
  rw [show List.replicate 4 false = [false, false, false, false] from rfl] at k1
  obtain ⟨W0, hW0⟩ : ∃ z, z = List.replicate (16 * 4) (0 : Int) := ⟨_, rfl⟩
  rw [← hW0] at k1
  clear hW0
  have hn1 := hn.ch hc1 (fun q => q)
  have hk1l := k1.lt
  have hs1 := hc1.size
  dsimp only
  go_wp2_with fail
  with_reducible refine (arena_New w1 w.heap.size (.pointer (some ⟨s, 0, none⟩)) hn1 hs1 (.inr ⟨s, rfl⟩)).mono ?_
  rintro e w2 ⟨b1, p1, rfl, a1, hb1, hp1, hc2⟩
  have hn2 := hn1.ch hc2 (fun q => q)
  have k2 := k1.ch0 hc2
  have hs2 := hc2.size
  have a1f := a1.foot_bd
  dsimp only
  go_wp2_with fail
  with_reducible refine (arena_New w2 w.heap.size (.pointer (some ⟨s, 0, none⟩)) hn2 (by omega) (.inr ⟨s, rfl⟩)).mono ?_
  rintro e w3 ⟨b2, p2, rfl, a2, hb2, hp2, hc3⟩
  have hn3 := hn2.ch hc3 (fun q => q)
  have k3 := k2.ch0 hc3
  have a1' := a1.ch0 hc3
  have hs3 := hc3.size
  have a2f := a2.foot_bd
  have hf1 : ∀ k, foot b1 p1 (.slice none 0 0) (.slice none 0 0) k → k = b1 ∨ k = p1 := by
    rintro k (q | q | q | q)
    · exact .inl q
    · exact .inr q
    · simp [Value.ownBlock] at q
    · simp [Value.ownBlock] at q
  have hf2 : ∀ k, foot b2 p2 (.slice none 0 0) (.slice none 0 0) k → k = b2 ∨ k = p2 := by
    rintro k (q | q | q | q)
    · exact .inl q
    · exact .inr q
    · simp [Value.ownBlock] at q
    · simp [Value.ownBlock] at q
  have b1l := a1f b1 (.inl rfl)
  have p1l := a1f p1 (.inr (.inl rfl))
  have b2l := a2f b2 (.inl rfl)
  have p2l := a2f p2 (.inr (.inl rfl))
  have hnb : 0 < w.heap.size ∧ 0 ≠ g ∧ 0 ≠ h := by omega
  have al1 := arena_Alloc w3 w.heap.size b1 p1 s p g m h _ _ _ _ _ _ _ _ 10 a1' k3 hn3 (show _ ∧ _ from by omega) (fun k q => by rcases hf1 k q with q | q <;> omega) hnb (by simp) (by simp)
  dsimp only
  go_wp2_with fail
  with_reducible refine al1.mono ?_
  rintro e w4 ⟨x4, E4, y4, V4, pg4, us4, rv4, tv4, R4, T4, rfl, a4, k4, hc4, hf4, hto4⟩
  obtain ⟨rfl, rfl, rfl, rfl, rfl, rfl, rfl, rfl⟩ := hto4.new (N := 1) (j := 0) (by decide) (by decide) (by omega) ⟨⟨by decide, fun j hj => by
    obtain rfl : j = 0 := by omega
    rfl⟩, fun b hb => by omega⟩
  rw [show placeA (-1) 16 10 ((0 : Nat) : Int) = 0 from by decide]
  rw [show (placeP (-1) 16 10 ((0 : Nat) : Int)).1 = 0 from by decide, show (placeP (-1) 16 10 ((0 : Nat) : Int)).2 = 10 from by decide] at a4
  rw [show markB [false, false, false, false] 0 true 1 = [true, false, false, false] from rfl] at k4
  have hn4 := hn3.ch hc4 (fun q => by rcases q with q | q | q; have := (hf1 _ q); omega; omega; omega)
  have a2' := a2.ch hc4 (fun k q r => by
    rcases hf2 k q with q | q
    · rcases r with r | r | r
      · rcases hf1 k r with r | r <;> omega
      · omega
      · omega
    · rcases r with r | r | r
      · rcases hf1 k r with r | r <;> omega
      · omega
      · omega)
  have hs4 := hc4.size
  have al2 := arena_Alloc w4 w.heap.size b2 p2 s p g m h _ _ _ _ _ _ _ _ 10 a2' k4 hn4 (show _ ∧ _ from by omega) (fun k q => by rcases hf2 k q with q | q <;> omega) hnb (by simp) (by simp)
  clear al1 hto4
  dsimp only
  go_wp2_with fail
  with_reducible refine al2.mono ?_
  rintro e w5 ⟨x5, E5, y5, V5, pg5, us5, rv5, tv5, R5, T5, rfl, a5, k5, hc5, hf5, hto5⟩
  have hfi : IsFind [true, false, false, false] 1 (some 1) := ⟨⟨by decide, fun j hj => by
    obtain rfl : j = 0 := by omega
    rfl⟩, fun b hb hq => by
    obtain rfl : b = 0 := by omega
    have := hq.2 0 (by omega)
    simp at this⟩
  have hx5 : x5 = 16 := (hto5.new (N := 1) (j := 1) (by decide) (by decide) (by omega) hfi).1.trans (by decide)
  subst hx5
  clear hfi
  have hn5 := hn4.ch hc5 (fun q => by rcases q with q | q | q; have := (hf2 _ q); omega; omega; omega)
  have a4' := a4.ch hc5 (fun k q r => by
    have hk : k = b1 ∨ k = p1 ∨ w3.heap.size ≤ k := by
      rcases hf4 k q with q | q
      · rcases hf1 k q with q | q
        · exact .inl q
        · exact .inr (.inl q)
      · exact .inr (.inr q)
    rcases r with r | r | r
    · rcases hf2 k r with r | r <;> omega
    · omega
    · omega)
  have hs5 := hc5.size
  have al3 := arena_Alloc w5 w.heap.size b1 p1 s p g m h _ _ _ _ _ _ _ _ 6 a4' k5 hn5 (show _ ∧ _ from by omega) (fun k q => by
    have hk : k = b1 ∨ k = p1 ∨ w3.heap.size ≤ k := by
      rcases hf4 k q with q | q
      · rcases hf1 k q with q | q
        · exact .inl q
        · exact .inr (.inl q)
      · exact .inr (.inr q)
    omega) hnb (by simp) (by simp)
  clear al2 hto5
  dsimp only
  go_wp2_with fail
  with_reducible refine al3.mono ?_
  rintro e w6 ⟨x6, E6, y6, V6, pg6, us6, rv6, tv6, R6, T6, rfl, a6, k6, hc6, hf6, hto6⟩
  have hx6 : x6 = 10 := (hto6.fit (by decide) (by decide)).1.trans (by decide)
  subst hx6
  dsimp only
  go_wp2_with fail
  go_ret
  refine ⟨rfl, ((((hc1.trans hc2).trans hc3).andThen hc4 (fun k q => .inr ?_)).andThen hc5 (fun k q => .inr ?_)).andThen hc6 (fun k q => .inr ?_)⟩
  · rcases q with q | q | q
    · rcases hf1 k q with q | q <;> omega
    · omega
    · omega
  · rcases q with q | q | q
    · rcases hf2 k q with q | q <;> omega
    · omega
    · omega
  · rcases q with q | q | q
    · have := (a4.foot_bd k q).1; omega
    · omega
    · omega

set_option maxRecDepth 100000 in
set_option maxHeartbeats 2000000 in
theorem none11 (w : World) (size : Int) (hn : Nw w) (hs : I64 size) :
    Calls Tryd.prog 3 #[.int .i64 size] w fun e w' => e = .returned (.bool true) ∧ Ch No w w' := by
  have hnl := hn.lt
  have hs' := hs.bd
  have hnew := arena_New w w.heap.size (.pointer none) hn (Nat.le_refl _) (.inl rfl)
  have key : ((decide (size < 1) = true ∨ (decide (size < 1) = false ∧ decide (size > 16384) = true)) ∧ (if size < 1 ∨ 16384 < size then (1 : Int) else 3) = 1) ∨ ((decide (size < 1) = false ∧ decide (size > 16384) = false) ∧ (if size < 1 ∨ 16384 < size then (1 : Int) else 3) = 3) := by
    by_cases h1 : size < 1
    · exact .inl ⟨.inl (decide_eq_true h1), by rw [if_pos (.inl h1)]⟩
    · by_cases h2 : 16384 < size
      · exact .inl ⟨.inr ⟨decide_eq_false h1, decide_eq_true h2⟩, by rw [if_pos (.inr h2)]⟩
      · exact .inr ⟨⟨decide_eq_false h1, decide_eq_false h2⟩, by rw [if_neg (by omega)]⟩
  have key2 : ∃ E : Int, (if size < 1 ∨ 16384 < size then (1 : Int) else 3) = E ∧ ((decide (size < 1) = true ∧ E = 1) ∨ (decide (size < 1) = false ∧ decide (size > 16384) = true ∧ E = 1) ∨ (decide (size < 1) = false ∧ decide (size > 16384) = false ∧ E = 3)) := by
    rcases key with ⟨h1 | ⟨h1, h2⟩, h3⟩ | ⟨⟨h1, h2⟩, h3⟩
    · exact ⟨1, h3, .inl ⟨h1, rfl⟩⟩
    · exact ⟨1, h3, .inr (.inl ⟨h1, h2, rfl⟩)⟩
    · exact ⟨3, h3, .inr (.inr ⟨h1, h2, rfl⟩)⟩
  obtain ⟨E, hE, hcase⟩ := key2
  have hal := fun w1 b p (a1 : ArenaAt w1 w.heap.size b (.pointer none) p (-1) 16 (.slice none 0 0) (.slice none 0 0) [] []) (hn1 : Nw w1) => arena_Alloc_nil w1 w.heap.size b p _ _ _ _ size a1 hn1 hs
  simp only [hE] at hal
  clear key hE
  rcases hcase with ⟨b1, rfl⟩ | ⟨b1, b2, rfl⟩ | ⟨b1, b2, rfl⟩
  all_goals
    go_enter Tryd.func3, Tryd.ntmps3
    go_wp2_with fail
    with_reducible refine hnew.mono ?_
    rintro e w1 ⟨b, p, rfl, a1, hb, hp, hc1⟩
    have hn1 := hn.ch hc1 (fun q => q)
    dsimp only
    go_wp2_with fail
    with_reducible refine (hal w1 b p a1 hn1).mono ?_
    rintro e w2 ⟨rfl, hc2⟩
    have a2 := a1.ch0 hc2
    have hn2 := hn1.ch hc2 (fun q => q)
    dsimp only
    go_wp2_with fail
    with_reducible refine (fixed11 w2 hn2).mono ?_
    rintro e w3 ⟨rfl, hc3⟩
    have a3 := a2.ch0 hc3
    have hn3 := hn2.ch hc3 (fun q => q)
    dsimp only
    go_wp2_with fail
    with_reducible refine (arena_Fits_nil w3 w.heap.size b p _ _ _ _ size a3 hn3 hs).mono ?_
    rintro e w4 ⟨rfl, hc4⟩
    have a4 := a3.ch0 hc4
    have hn4 := hn3.ch hc4 (fun q => q)
    have hs4 := ((hc1.trans hc2).trans (hc3.trans hc4)).size
    dsimp only
    go_wp2_with fail
    with_reducible refine (arena_Release0 w4 w.heap.size b p (-1) 16 _ _ none 0 a4 hn4 hs4).mono ?_
    rintro e w5 ⟨p5, rfl, a5, hc5⟩
    have x2 : w5.cell? ⟨b, 2, none⟩ = some (.slice none 0 0) := cellOf a5.head 2 rfl
    dsimp only
    go_wp2_with fail
    with_reducible refine (arena_Pages0 w5 b none 0 x2).mono ?_
    rintro e w6 ⟨rfl, hc6⟩
    have x3 := hc6.cell x2 (fun q => q)
    dsimp only
    go_wp2_with fail
    with_reducible refine (arena_Has0 w6 b none 0 0 x3).mono ?_
    rintro e w7 ⟨rfl, hc7⟩
    dsimp only
    go_wp2_with fail
    go_ret
    exact ⟨rfl, ((((hc1.trans hc2).trans (hc3.trans hc4)).andThen hc5 (fun k q => .inr (by have : k = b := q; omega))).trans hc6).trans hc7⟩
end Go.Proofs.YtpldogmamifdpaaDoor

/- Layer 4 (ids): the chapter's example; the law IdsPlay: the walk. -/
import Derived.Test.YtinjbonodlkafaaRef04
import Derived.Deep.RegionHeld3
set_option linter.unusedVariables false
set_option linter.unusedSimpArgs false
namespace Go.Proofs.Ytinjbonodlkafaa
open Go Go.RowKit

theorem two_lit {F : Nat → Prop} {w : World} {g : Nat} {x y : Int} {T : TypeId} (h : w.heap[g]? = some (.cells #[.int .i64 x, .int .i64 y] T (0, 0))) (hx : I64 x) (hy : I64 y) (hF : ¬ F g) : SlR (intRp .i64) F w (some ⟨g, 0, none⟩) 2 [x, y] :=
  ⟨Nat.le_refl _, by unfold maxLen; omega, fun q => (by cases q), fun _ => ⟨g, 0, rfl, hF, heap_lt h, fun i hi => by
    have hi0 : i = 0 ∨ i = 1 := by simp at hi; omega
    rcases hi0 with rfl | rfl
    · refine ⟨[.int .i64 x], fun j u hj => ?_, rfl, hx⟩
      have hj0 : j = 0 := by have := (List.getElem?_eq_some_iff.1 hj).1; simpa using this
      subst hj0
      simp at hj
      subst hj
      exact cellOf h 0 rfl
    · refine ⟨[.int .i64 y], fun j u hj => ?_, rfl, hy⟩
      have hj0 : j = 0 := by have := (List.getElem?_eq_some_iff.1 hj).1; simpa using this
      subst hj0
      simp at hj
      subst hj
      exact cellOf h 1 rfl⟩⟩

set_option maxRecDepth 100000 in
theorem fixed04 (w : World) : Calls Try.prog 11 #[] w fun e w' => e = .returned (.bool true) ∧ Ch No w w' := by
  have h5 : I64 5 := show _ ∧ _ from by omega
  go_enter Try.func11, Try.ntmps11
  go_wp2_with fail
  with_reducible refine (ids_New w 5 h5).mono ?_
  rintro e w1 ⟨b, m, rfl, hB1, hb, hm, hc1⟩
  rw [show max (5 : Int) 0 = 5 from rfl] at hB1
  have g1 := ids_Give w1 b m [] 0 5 hB1 (by decide) (by omega)
  rw [show (0 : Int) + 1 = 1 from rfl] at g1
  dsimp only
  go_wp2_with fail
  with_reducible refine g1.mono ?_
  rintro e w2 ⟨rfl, hB2, hc2⟩
  have g2 := ids_Give w2 b m _ 1 5 hB2 (by decide) (by omega)
  rw [show (1 : Int) + 1 = 2 from rfl] at g2
  dsimp only
  go_wp2_with fail
  with_reducible refine g2.mono ?_
  rintro e w3 ⟨rfl, hB3, hc3⟩
  have g3 := ids_Take w3 b m _ 2 5 1 (.agg #[]) hB3 (show _ ∧ _ from by omega) rfl
  dsimp only
  go_wp2_with fail
  with_reducible refine g3.mono ?_
  rintro e w4 ⟨rfl, hB4, hc4⟩
  have g4 := ids_Give w4 b m _ 2 5 hB4 (by decide) (by omega)
  rw [show (2 : Int) + 1 = 3 from rfl] at g4
  dsimp only
  go_wp2_with fail
  with_reducible refine g4.mono ?_
  rintro e w5 ⟨rfl, hB5, hc5⟩
  have hB6 : BookAt w5 b m [((2 : Int), Value.agg #[]), (3, Value.agg #[])] 3 5 := hB5
  have g5 := ids_All No w5 b m _ 3 5 hB6 (fun k hk => by simp [aKeys] at hk; rcases hk with rfl | rfl <;> exact show _ ∧ _ from by omega) (by simp) (fun _ e => e.elim)
  rw [show keysOf [((2 : Int), Value.agg #[]), (3, Value.agg #[])] = [2, 3] from sorted_of (by simp [aKeys])] at g5
  dsimp only
  go_wp2_with fail
  with_reducible refine g5.mono ?_
  rintro e w6 ⟨q, c, rfl, hs6, hc6⟩
  have hal : Ch No w6 (w6.alloc (.cells #[.int .i64 2, .int .i64 3] 3)) := (Ch.refl _ _).alloc _
  have hd : (w6.alloc (.cells #[.int .i64 2, .int .i64 3] 3)).heap[w6.heap.size]? = some (.cells #[.int .i64 2, .int .i64 3] 3 (0, 0)) := heap_alloc_new _ _
  have hsm := ref04_Same No No _ q (some ⟨w6.heap.size, 0, none⟩) c 2 [2, 3] [2, 3] (hs6.ch0 hal) (two_lit hd (show _ ∧ _ from by omega) (show _ ∧ _ from by omega) (fun e => e)) (by simp) (by simp)
  rw [decide_eq_true rfl] at hsm
  simp only [List.length_cons, List.length_nil] at hsm ⊢
  go_wp2_with fail
  with_reducible refine hsm.mono ?_
  rintro e w7 ⟨rfl, hc7⟩
  dsimp only
  go_wp2_with fail
  go_ret
  refine ⟨rfl, ?_⟩
  have hbm : ∀ k, Two b m k → No k ∨ w.heap.size ≤ k := fun k e => .inr (by rcases e with e | e <;> omega)
  have h4 : ∀ k, One m k → No k ∨ w.heap.size ≤ k := fun k e => .inr (by have : k = m := e; omega)
  exact ((((((hc1.andThen hc2 hbm).andThen hc3 hbm).andThen hc4 h4).andThen hc5 hbm).trans hc6).trans hal).trans hc7

set_option maxRecDepth 100000 in
set_option maxHeartbeats 8000000 in
theorem play04 (w : World) (mo : Int) (a : Option Addr) (c : Nat) (l : List Int) (hm : I64 mo) (hsl0 : SlR (intRp .i64) No w a c l) (hl : l.length ≤ 9223372036854775807) :
    Calls Try.prog 3 #[.int .i64 mo, .slice a l.length c] w fun e w' => e = .returned (.bool true) ∧ Ch No w w' := by
  by_cases hcut : 100 < l.length
  · have b3 : decide ((l.length : Int) > 100) = true := decide_eq_true (by omega)
    go_enter Try.func3, Try.ntmps3
    go_wp2_with fail
    with_reducible refine (fixed04 w).mono ?_
    rintro e w1 ⟨rfl, hc⟩
    dsimp only
    go_wp2_with fail
    go_ret
    exact ⟨rfl, hc⟩
  · have b3 : decide ((l.length : Int) > 100) = false := decide_eq_false (by omega)
    have hl100 : l.length ≤ 100 := by omega
    clear hcut hl
    obtain ⟨M, hM⟩ : ∃ z, z = max mo 0 := ⟨_, rfl⟩
    have hM0 : 0 ≤ M := by omega
    have hnw := ids_New w mo hm
    have hrn := fun W => ref04_New W mo hm
    rw [← hM] at hnw
    simp only [← hM] at hrn
    clear hM
    go_enter Try.func3, Try.ntmps3
    go_wp2_with fail
    with_reducible refine hnw.mono ?_
    rintro e w1 ⟨b, m, rfl, hB1, hb, hmb, hc1⟩
    have hlt1 := hB1.lt
    clear hnw
    dsimp only
    go_wp2_with fail
    with_reducible refine (hrn w1).mono ?_
    rintro e w2 ⟨rfl, hc2⟩
    have hs2 := hc2.size
    have hs1 := hc1.size
    clear hrn
    dsimp only
    go_wp2_with fail
    obtain ⟨X, hX⟩ : ∃ z, z = w2.heap.size := ⟨_, rfl⟩
    obtain ⟨w3, hw3⟩ : ∃ z, z = w2.alloc (.cells #[.slice none 0 0, .int .i64 0, .int .i64 M] 27) := ⟨_, rfl⟩
    have hal : Ch No w2 w3 := by rw [hw3]; exact (Ch.refl _ _).alloc _
    have hX0 : w3.heap[X]? = some (.cells #[.slice none 0 0, .int .i64 0, .int .i64 M] 27 (0, 0)) := by rw [hw3, hX]; exact heap_alloc_new _ _
    rw [← hX, ← hw3]
    have hB3 := (hB1.ch0 hc2).ch0 hal
    have hXb : b < X ∧ m < X ∧ w.heap.size ≤ b ∧ w.heap.size ≤ m ∧ w.heap.size ≤ X := by omega
    have hC0 : Ch (fun k => w.heap.size ≤ k) w w3 := ((hc1.trans hc2).trans hal).ofNo
    have HX := Lib.hid hX; have HW := Lib.hid hw3
    clear hX hw3
    go_loopw [29] (fun v wq => ∃ (i : Nat) (al : AL) (la : Int) (q : Option Addr) (c' : Nat), i ≤ l.length ∧ v = .int .i64 i ∧ BookAt wq b m al la M ∧ wq.heap[X]? = some (.cells #[.slice q al.length c', .int .i64 la, .int .i64 M] 27 (0, 0)) ∧ SlR (intRp .i64) (fun k => k = X ∨ k = b ∨ k = m) wq q c' (aKeys al) ∧ (aKeys al).Pairwise (· < ·) ∧ (∀ k ∈ aKeys al, 1 ≤ k ∧ k ≤ la) ∧ (0 ≤ la ∧ la ≤ i) ∧ al.length ≤ i ∧ Ch (fun k => w.heap.size ≤ k) w wq) (fun v _ => l.length - (intOf v).toNat)
    case atStart => exact ⟨0, [], 0, none, 0, by omega, rfl, hB3, hX0, SlR.nilR _ _ _, by simp [aKeys], by simp [aKeys], by omega, by simp, hC0⟩
    case round =>
      obtain ⟨i, al, la, q, c', hi, rfl, hB, hXr, hq, hr, hbd, hla, hali, hC⟩ := hrel
      by_cases hil : i < l.length
      · obtain ⟨bq, off, rfl, _, _, d0, ix⟩ := ((hsl0.more (F' := fun k => w.heap.size ≤ k) (fun k e => .inr e)).ch hC (fun k e => e)).int_at i hil
        obtain ⟨x, hx⟩ : ∃ z, z = l[i] := ⟨_, rfl⟩
        rw [← hx] at d0 ix
        have HXX := Lib.hid hx
        have hkl := aKeys_length al
        have hlt := hB.lt
        have hXlt := heap_lt hXr
        clear hx
        by_cases hx1 : x < 1
        · have b1 : decide (x < 1) = true := decide_eq_true hx1
          by_cases hfull : M ≤ (al.length : Int)
          · have hg := ids_Give_no wr b m al la M hB hfull
            have hrg := fun W => ref04_Give_no W q c' al.length la M hfull
            clear hx1 hfull
            go_wp2_with fail
            with_reducible refine hg.mono ?_
            rintro e w4 ⟨rfl, hc4⟩
            have hX4 := hc4.heap hXr (fun e => e)
            have y0 := cellOf hX4 0 rfl
            have y1 := cellOf hX4 1 rfl
            have y2 := cellOf hX4 2 rfl
            dsimp only
            go_wp2_with fail
            with_reducible refine (hrg w4).mono ?_
            rintro e w5 ⟨rfl, hc5⟩
            have hB4 := hB.ch0 hc4
            have hC4 := hC.then0 hc4
            have hq5 := (hq.ch0 hc4).ch0 hc5
            have HLN := Lib.hid (show al.length = al.length from rfl)
            have hrN := hr; have hbN := hbd
            have hlaN : 0 ≤ la ∧ la ≤ (i : Int) + 1 := by omega
            have hlN : al.length ≤ i + 1 := by omega
            clear hg hrg y0 y1 y2
            have hX5 := heap_al (hc5.heap hX4 (fun e => e)) (.cells #[.slice q al.length c', .int .i64 la, .int .i64 M] 27)
            have z0 := cellOf hX5 0 rfl
            have z1 := cellOf hX5 1 rfl
            have z2 := cellOf hX5 2 rfl
            have f0 := freeOf hX5 0
            have f1 := freeOf hX5 1
            have f2 := freeOf hX5 2
            have m9 := three_set (u0 := .slice q al.length c') (u1 := .int .i64 la) (u2 := .int .i64 M) hX5
            dsimp only
            go_wp2_with fail
            obtain ⟨w3, hw3⟩ : ∃ z, z = ((((w5.alloc (.cells #[.slice q al.length c', .int .i64 la, .int .i64 M] 27)).setCell ⟨X, 0, none⟩ (.slice q al.length c')).setCell ⟨X, 1, none⟩ (.int .i64 la)).setCell ⟨X, 2, none⟩ (.int .i64 M)) := ⟨_, rfl⟩
            have hcX : Ch (One X) w5 w3 := by rw [hw3]; exact (((((Ch.refl (One X) w5).alloc _).setIn (p := ⟨X, 0, none⟩) rfl _).setIn (p := ⟨X, 1, none⟩) rfl _).setIn (p := ⟨X, 2, none⟩) rfl _)
            rw [← hw3] at m9 ⊢
            have hX3 := m9
            have hB3 := (hB4.ch0 hc5).ch hcX (fun e => by have : b = X := e; omega) (fun e => by have : m = X := e; omega)
            have hq3 := hq5.ch hcX (fun k e => .inl e)
            have hC3 := (hC4.then0 hc5).andThen hcX (fun k e => .inl (by have : k = X := e; show w.heap.size ≤ k; omega))
            obtain ⟨al3, hal3⟩ : ∃ z, z = al := ⟨_, rfl⟩
            obtain ⟨la3, hla3⟩ : ∃ z, z = la := ⟨_, rfl⟩
            obtain ⟨q3, hq3'⟩ : ∃ z, z = q := ⟨_, rfl⟩
            obtain ⟨c3, hc3'⟩ : ∃ z, z = c' := ⟨_, rfl⟩
            (try rw [HLN.out] at hX3)
            rw [← hal3] at hX3
            (try rw [HLN.out])
            rw [← hal3, ← hla3, ← hq3', ← hc3']
            rw [← hal3] at hB3 hq3 hrN hbN hlN
            rw [← hla3] at hX3 hB3 hbN hlaN
            rw [← hq3', ← hc3'] at hX3 hq3
            have hr3 := hrN; have hb3 := hbN
            have hla3b := hlaN
            have hal3b := hlN
            clear hw3 hal3 hla3 hq3' hc3' m9 z0 z1 z2 f0 f1 f2 hX5 hX4 hrN hbN hlaN hlN hq5 hB4 hC4
            have hd3 : Ch No w3 w3.drew := (Ch.refl _ _).drew
            have hk3l : (aKeys al3).length = al3.length := aKeys_length al3
            have hso3 : keysOf al3 = aKeys al3 := sorted_of (hr3.imp (fun h => by omega))
            have hI3 : ∀ k ∈ aKeys al3, I64 k := fun k hk => by have := hb3 k hk; exact show _ ∧ _ from by omega
            have hmem3 : (aGet al3 x).isSome = decide (x ∈ aKeys al3) := by
              by_cases hx : x ∈ aKeys al3
              · rw [decide_eq_true hx]; exact aKeys_mem.1 hx
              · rw [decide_eq_false hx]
                cases e : (aGet al3 x).isSome with
                | false => rfl
                | true => exact absurd (aKeys_mem.2 e) hx
            obtain ⟨V, hV⟩ : ∃ V : Bool, V = decide (x ∈ aKeys al3) := ⟨_, rfl⟩
            have hall : ∀ W', Ch No w3.drew W' → Calls Try.prog 19 #[.pointer (some ⟨b, 0, none⟩)] W' fun e w' => ∃ q c, e = .returned (.slice q al3.length c) ∧ SlR (intRp .i64) No w' q c (aKeys al3) ∧ Ch No W' w' := fun W' hc => by
              have := ids_All No W' b m al3 la3 M ((hB3.ch0 hd3).ch0 hc) hI3 (by omega) (fun k e => e.elim)
              rw [hso3] at this
              exact this
            have hsm : ∀ W', Ch No w3.drew W' → ∀ qn cn, SlR (intRp .i64) No W' qn cn (aKeys al3) → Calls Try.prog 18 #[.slice qn al3.length cn, .slice q3 al3.length c3] W' fun e w' => e = .returned (.bool true) ∧ Ch No W' w' := fun W' hc qn cn hq => by
              have := ref04_Same No (fun k => k = X ∨ k = b ∨ k = m) W' _ _ _ _ _ _ hq ((hq3.ch0 hd3).ch0 hc) (by omega) (by omega)
              rw [decide_eq_true rfl, hk3l] at this
              exact this
            have hlast : ∀ W', Ch No w3.drew W' → Calls Try.prog 20 #[.pointer (some ⟨b, 0, none⟩)] W' fun e w' => e = .returned (.int .i64 la3) ∧ W' = w' := fun W' hc => ids_Last W' b m al3 la3 M ((hB3.ch0 hd3).ch0 hc)
            have hlv : ∀ W', Ch No w3.drew W' → Calls Try.prog 21 #[.pointer (some ⟨b, 0, none⟩), .int .i64 x] W' fun e w' => e = .returned (.bool V) ∧ Ch No W' w' := fun W' hc => by
              rw [hV, ← hmem3]
              exact ids_Lives W' b m al3 la3 M x ((hB3.ch0 hd3).ch0 hc) ix
            have hrl : ∀ W', Ch No w3.drew W' → Calls Try.prog 22 #[.agg #[.slice q3 al3.length c3, .int .i64 la3, .int .i64 M], .int .i64 x] W' fun e w' => e = .returned (.bool V) ∧ Ch No W' w' := fun W' hc => by
              rw [hV]
              have := ref04_Lives (fun k => k = X ∨ k = b ∨ k = m) W' q3 c3 (aKeys al3) la3 M x ((hq3.ch0 hd3).ch0 hc) ix (by omega)
              rw [hk3l] at this
              exact this
            have hXd := hd3.heap hX3 (fun q => q)
            have K20 : ∀ W', Ch No w3.drew W' → (fun w' : World => (w'.cell? ⟨X, 0, none⟩ = some (.slice q3 al3.length c3) ∧ w'.cell? ⟨X, 1, none⟩ = some (.int .i64 la3) ∧ w'.cell? ⟨X, 2, none⟩ = some (.int .i64 M)) ∧ Ch No w3.drew w') W' := fun W' hc => ⟨⟨hc.cell (cellOf hXd 0 rfl) (fun q => q), hc.cell (cellOf hXd 1 rfl) (fun q => q), hc.cell (cellOf hXd 2 rfl) (fun q => q)⟩, hc⟩
            have HR3 := Lib.hid hr3; have HB3 := Lib.hid hb3
            clear hV hmem3 hso3 hI3 hk3l hr3
            try go_wp2_with fail
            refine wp_region_held_drew (S := (fun w' : World => (w'.cell? ⟨X, 0, none⟩ = some (.slice q3 al3.length c3) ∧ w'.cell? ⟨X, 1, none⟩ = some (.int .i64 la3) ∧ w'.cell? ⟨X, 2, none⟩ = some (.int .i64 M)) ∧ Ch No w3.drew w')) (by kernel_rfl) (K20 _ (Ch.refl _ _)) (fun hHeld => ?_)
            refine wpAnyH_take (i := 0) (v := ?_) (by simp only [List.getElem?_toArray, List.getElem?_cons_zero, List.getElem?_cons_succ]; exact rfl) (by kernel_rfl) (by kernel_rfl) (by kernel_rfl) (by intro _ _ _ h; exact h) (Or.inl ⟨by rfl, ?_⟩) (by assumption) ?_
            rotate_left
            · intro w hSw
              (try dsimp only at hSw)
              go_simp
              try (with_reducible rfl)
            try simp only [Act.put, List.setIfInBounds_toArray, List.set_cons_zero, List.set_cons_succ]
            refine wpAnyH_take (i := 2) (v := ?_) (by simp only [List.getElem?_toArray, List.getElem?_cons_zero, List.getElem?_cons_succ]; exact rfl) (by kernel_rfl) (by kernel_rfl) (by kernel_rfl) (by intro _ _ _ h; exact h) (Or.inl ⟨by rfl, ?_⟩) (by assumption) ?_
            rotate_left
            · intro w hSw
              (try dsimp only at hSw)
              go_simp
              try (with_reducible rfl)
            try simp only [Act.put, List.setIfInBounds_toArray, List.set_cons_zero, List.set_cons_succ]
            refine wpAnyH_take (i := 3) (v := ?_) (by simp only [List.getElem?_toArray, List.getElem?_cons_zero, List.getElem?_cons_succ]; exact rfl) (by kernel_rfl) (by kernel_rfl) (by kernel_rfl) (by intro _ _ _ h; exact h) (Or.inl ⟨by rfl, ?_⟩) (by assumption) ?_
            rotate_left
            · intro w hSw
              (try dsimp only at hSw)
              go_simp
              try (with_reducible rfl)
            try simp only [Act.put, List.setIfInBounds_toArray, List.set_cons_zero, List.set_cons_succ]
            refine wpAnyH_ready (rs := [1]) (by kernel_rfl) (by simp) ?_
            refine AllReadyH.cons (by simp only [List.getElem?_toArray, List.getElem?_cons_zero, List.getElem?_cons_succ]; exact rfl) (fun K hK => ?_) AllReadyH.nil
            go_simp
            (go_at_call 19; (with_reducible refine (hall _ (And.right (by assumption))).mono ?_); rintro e w9 ⟨qn, cn, rfl, hsn, hc9⟩; have hS9 := K20 _ (Ch.trans (And.right (by assumption)) hc9); (try dsimp only))
            try go_wp2_with fail
            refine hK.out _ _ ?_ (fun hHeld => ?_)
            · try dsimp only
              first | assumption | exact (by assumption) | fail
            clear hK K
            try simp only [Act.put, List.setIfInBounds_toArray, List.set_cons_zero, List.set_cons_succ]
            refine wpAnyH_ready (rs := [4]) (by kernel_rfl) (by simp) ?_
            refine AllReadyH.cons (by simp only [List.getElem?_toArray, List.getElem?_cons_zero, List.getElem?_cons_succ]; exact rfl) (fun K hK => ?_) AllReadyH.nil
            go_simp
            (go_at_call 18; (with_reducible refine (hsm _ (And.right (by assumption)) qn cn hsn).mono ?_); rintro e w9 ⟨rfl, hc9⟩; have hS9 := K20 _ (Ch.trans (And.right (by assumption)) hc9); (try dsimp only))
            try go_wp2_with fail
            refine hK.out _ _ ?_ (fun hHeld => ?_)
            · try dsimp only
              first | assumption | exact (by assumption) | fail
            clear hK K
            try simp only [Act.put, List.setIfInBounds_toArray, List.set_cons_zero, List.set_cons_succ]
            refine wpAnyH_take (i := 5) (v := ?_) (by simp only [List.getElem?_toArray, List.getElem?_cons_zero, List.getElem?_cons_succ]; exact rfl) (by kernel_rfl) (by kernel_rfl) (by kernel_rfl) (by intro _ _ _ h; exact h) (Or.inl ⟨by rfl, ?_⟩) (by assumption) ?_
            rotate_left
            · intro w hSw
              (try dsimp only at hSw)
              go_simp
              try (with_reducible rfl)
            try simp only [Act.put, List.setIfInBounds_toArray, List.set_cons_zero, List.set_cons_succ]
            refine wpAnyH_take (i := 6) (v := ?_) (by simp only [List.getElem?_toArray, List.getElem?_cons_zero, List.getElem?_cons_succ]; exact rfl) (by kernel_rfl) (by kernel_rfl) (by kernel_rfl) (by intro _ _ _ h; exact h) (Or.inl ⟨by rfl, ?_⟩) (by assumption) ?_
            rotate_left
            · intro w hSw
              (try dsimp only at hSw)
              go_simp
              try (with_reducible rfl)
            try simp only [Act.put, List.setIfInBounds_toArray, List.set_cons_zero, List.set_cons_succ]
            refine wpAnyH_take (i := 7) (v := ?_) (by simp only [List.getElem?_toArray, List.getElem?_cons_zero, List.getElem?_cons_succ]; exact rfl) (by kernel_rfl) (by kernel_rfl) (by kernel_rfl) (by intro _ _ _ h; exact h) (Or.inl ⟨by rfl, ?_⟩) (by assumption) ?_
            rotate_left
            · intro w hSw
              (try dsimp only at hSw)
              go_simp
              try (with_reducible rfl)
            try simp only [Act.put, List.setIfInBounds_toArray, List.set_cons_zero, List.set_cons_succ]
            refine wpAnyH_take (i := 9) (v := ?_) (by simp only [List.getElem?_toArray, List.getElem?_cons_zero, List.getElem?_cons_succ]; exact rfl) (by kernel_rfl) (by kernel_rfl) (by kernel_rfl) (by intro _ _ _ h; exact h) (Or.inl ⟨by rfl, ?_⟩) (by assumption) ?_
            rotate_left
            · intro w hSw
              (try dsimp only at hSw)
              go_simp
              try (with_reducible rfl)
            try simp only [Act.put, List.setIfInBounds_toArray, List.set_cons_zero, List.set_cons_succ]
            refine wpAnyH_take (i := 10) (v := ?_) (by simp only [List.getElem?_toArray, List.getElem?_cons_zero, List.getElem?_cons_succ]; exact rfl) (by kernel_rfl) (by kernel_rfl) (by kernel_rfl) (by intro _ _ _ h; exact h) (Or.inl ⟨by rfl, ?_⟩) (by assumption) ?_
            rotate_left
            · intro w hSw
              (try dsimp only at hSw)
              go_simp
              try (with_reducible rfl)
            try simp only [Act.put, List.setIfInBounds_toArray, List.set_cons_zero, List.set_cons_succ]
            refine wpAnyH_ready (rs := [8]) (by kernel_rfl) (by simp) ?_
            refine AllReadyH.cons (by simp only [List.getElem?_toArray, List.getElem?_cons_zero, List.getElem?_cons_succ]; exact rfl) (fun K hK => ?_) AllReadyH.nil
            go_simp
            (go_at_call 20; (with_reducible refine (hlast _ (And.right (by assumption))).mono ?_); rintro e w9 ⟨rfl, rfl⟩; (try dsimp only))
            try go_wp2_with fail
            refine hK.out _ _ ?_ (fun hHeld => ?_)
            · try dsimp only
              first | assumption | exact (by assumption) | fail
            clear hK K
            try simp only [Act.put, List.setIfInBounds_toArray, List.set_cons_zero, List.set_cons_succ]
            refine wpAnyH_take (i := 11) (v := ?_) (by simp only [List.getElem?_toArray, List.getElem?_cons_zero, List.getElem?_cons_succ]; exact rfl) (by kernel_rfl) (by kernel_rfl) (by kernel_rfl) (by intro _ _ _ h; exact h) (Or.inl ⟨by rfl, ?_⟩) (by assumption) ?_
            rotate_left
            · intro w hSw
              (try dsimp only at hSw)
              go_simp
              try (with_reducible rfl)
            try simp only [Act.put, List.setIfInBounds_toArray, List.set_cons_zero, List.set_cons_succ]
            refine wpAnyH_take (i := 12) (v := ?_) (by simp only [List.getElem?_toArray, List.getElem?_cons_zero, List.getElem?_cons_succ]; exact rfl) (by kernel_rfl) (by kernel_rfl) (by kernel_rfl) (by intro _ _ _ h; exact h) (Or.inl ⟨by rfl, ?_⟩) (by assumption) ?_
            rotate_left
            · intro w hSw
              (try dsimp only at hSw)
              go_simp
              try (with_reducible rfl)
            try simp only [Act.put, List.setIfInBounds_toArray, List.set_cons_zero, List.set_cons_succ]
            refine wpAnyH_take (i := 13) (v := ?_) (by simp only [List.getElem?_toArray, List.getElem?_cons_zero, List.getElem?_cons_succ]; exact rfl) (by kernel_rfl) (by kernel_rfl) (by kernel_rfl) (by intro _ _ _ h; exact h) (Or.inl ⟨by rfl, ?_⟩) (by assumption) ?_
            rotate_left
            · intro w hSw
              (try dsimp only at hSw)
              go_simp
              try (with_reducible rfl)
            try simp only [Act.put, List.setIfInBounds_toArray, List.set_cons_zero, List.set_cons_succ]
            refine wpAnyH_take (i := 14) (v := ?_) (by simp only [List.getElem?_toArray, List.getElem?_cons_zero, List.getElem?_cons_succ]; exact rfl) (by kernel_rfl) (by kernel_rfl) (by kernel_rfl) (by intro _ _ _ h; exact h) (Or.inl ⟨by rfl, ?_⟩) (by assumption) ?_
            rotate_left
            · intro w hSw
              (try dsimp only at hSw)
              go_simp
              try (with_reducible rfl)
            try simp only [Act.put, List.setIfInBounds_toArray, List.set_cons_zero, List.set_cons_succ]
            refine wpAnyH_take (i := 15) (v := ?_) (by simp only [List.getElem?_toArray, List.getElem?_cons_zero, List.getElem?_cons_succ]; exact rfl) (by kernel_rfl) (by kernel_rfl) (by kernel_rfl) (by intro _ _ _ h; exact h) (Or.inl ⟨by rfl, ?_⟩) (by assumption) ?_
            rotate_left
            · intro w hSw
              (try dsimp only at hSw)
              go_simp
              try (with_reducible rfl)
            try simp only [Act.put, List.setIfInBounds_toArray, List.set_cons_zero, List.set_cons_succ]
            refine wpAnyH_take (i := 17) (v := ?_) (by simp only [List.getElem?_toArray, List.getElem?_cons_zero, List.getElem?_cons_succ]; exact rfl) (by kernel_rfl) (by kernel_rfl) (by kernel_rfl) (by intro _ _ _ h; exact h) (Or.inl ⟨by rfl, ?_⟩) (by assumption) ?_
            rotate_left
            · intro w hSw
              (try dsimp only at hSw)
              go_simp
              try (with_reducible rfl)
            try simp only [Act.put, List.setIfInBounds_toArray, List.set_cons_zero, List.set_cons_succ]
            refine wpAnyH_take (i := 18) (v := ?_) (by simp only [List.getElem?_toArray, List.getElem?_cons_zero, List.getElem?_cons_succ]; exact rfl) (by kernel_rfl) (by kernel_rfl) (by kernel_rfl) (by intro _ _ _ h; exact h) (Or.inl ⟨by rfl, ?_⟩) (by assumption) ?_
            rotate_left
            · intro w hSw
              (try dsimp only at hSw)
              go_simp
              try (with_reducible rfl)
            try simp only [Act.put, List.setIfInBounds_toArray, List.set_cons_zero, List.set_cons_succ]
            refine wpAnyH_ready (rs := [16]) (by kernel_rfl) (by simp) ?_
            refine AllReadyH.cons (by simp only [List.getElem?_toArray, List.getElem?_cons_zero, List.getElem?_cons_succ]; exact rfl) (fun K hK => ?_) AllReadyH.nil
            go_simp
            (go_at_call 21; (with_reducible refine (hlv _ (And.right (by assumption))).mono ?_); rintro e w9 ⟨rfl, hc9⟩; have hS9 := K20 _ (Ch.trans (And.right (by assumption)) hc9); (try dsimp only))
            try go_wp2_with fail
            refine hK.out _ _ ?_ (fun hHeld => ?_)
            · try dsimp only
              first | assumption | exact (by assumption) | fail
            clear hK K
            try simp only [Act.put, List.setIfInBounds_toArray, List.set_cons_zero, List.set_cons_succ]
            refine wpAnyH_ready (rs := [19]) (by kernel_rfl) (by simp) ?_
            refine AllReadyH.cons (by simp only [List.getElem?_toArray, List.getElem?_cons_zero, List.getElem?_cons_succ]; exact rfl) (fun K hK => ?_) AllReadyH.nil
            go_simp
            (go_at_call 22; (with_reducible refine (hrl _ (And.right (by assumption))).mono ?_); rintro e w9 ⟨rfl, hc9⟩; have hS9 := K20 _ (Ch.trans (And.right (by assumption)) hc9); (try dsimp only))
            try go_wp2_with fail
            refine hK.out _ _ ?_ (fun hHeld => ?_)
            · try dsimp only
              first | assumption | exact (by assumption) | fail
            clear hK K
            try simp only [Act.put, List.setIfInBounds_toArray, List.set_cons_zero, List.set_cons_succ]
            refine wpAnyH_take (i := 20) (v := ?_) (by simp only [List.getElem?_toArray, List.getElem?_cons_zero, List.getElem?_cons_succ]; exact rfl) (by kernel_rfl) (by kernel_rfl) (by kernel_rfl) (by intro _ _ _ h; exact h) (Or.inl ⟨by rfl, ?_⟩) (by assumption) ?_
            rotate_left
            · intro w hSw
              (try dsimp only at hSw)
              go_simp
              try (with_reducible rfl)
            try simp only [Act.put, List.setIfInBounds_toArray, List.set_cons_zero, List.set_cons_succ]
            refine wpAnyH_take (i := 21) (v := ?_) (by simp only [List.getElem?_toArray, List.getElem?_cons_zero, List.getElem?_cons_succ]; exact rfl) (by kernel_rfl) (by kernel_rfl) (by kernel_rfl) (by intro _ _ _ h; exact h) (Or.inl ⟨by rfl, ?_⟩) (by assumption) ?_
            rotate_left
            · intro w hSw
              (try dsimp only at hSw)
              go_simp
              try (with_reducible rfl)
            try simp only [Act.put, List.setIfInBounds_toArray, List.set_cons_zero, List.set_cons_succ]
            refine wpAnyH_done (by kernel_rfl) ?_ _
            have hcF : Ch No w3 _ := hd3.trans hS9.2
            try go_wp2_with fail
            go_roundw
            case rel => exact ⟨i + 1, al3, la3, q3, c3, by omega, by go_num, hB3.ch0 hcF, hcF.heap hX3 (fun q => q), hq3.ch0 hcF, HR3.out, HB3.out, by omega, by omega, hC3.then0 hcF⟩
            case measure => exact meas_lt (by omega)
          · have hg := ids_Give wr b m al la M hB (by omega) (by omega)
            have hno : aGet al (la + 1) = none := aGet_none (fun e => by have := hbd _ e; omega)
            have hks : aKeys (aSet al (la + 1) (.agg #[])) = aKeys al ++ [la + 1] := by rw [aKeys_set, hno]; rfl
            have hlen2 : (aSet al (la + 1) (.agg #[])).length = al.length + 1 := by rw [← aKeys_length, hks, List.length_append, aKeys_length]; rfl
            have HMF := Lib.hid hfull
            clear hx1 hfull
            go_wp2_with fail
            with_reducible refine hg.mono ?_
            rintro e w4 ⟨rfl, hB4, hc4⟩
            have hX4 := hc4.heap hXr (fun e => by rcases e with e | e <;> omega)
            have hq4 := hq.ch hc4 (fun k e => .inr e)
            have hrg := ref04_Give (fun k => k = X ∨ k = b ∨ k = m) w4 q c' (aKeys al) la M hq4 (by omega) (by have := HMF.out; omega) (by omega) (fun k e => by have := hc4.size; rcases e with e | e | e <;> omega)
            rw [hkl] at hrg
            have y0 := cellOf hX4 0 rfl
            have y1 := cellOf hX4 1 rfl
            have y2 := cellOf hX4 2 rfl
            obtain ⟨lb, hlb⟩ : ∃ z, z = la + 1 := ⟨_, rfl⟩
            rw [← hlb] at hB4 hks hlen2 ⊢
            simp only [← hlb] at hrg
            obtain ⟨alN, halN⟩ : ∃ z, z = aSet al lb (.agg #[]) := ⟨_, rfl⟩
            rw [← halN] at hB4 hks hlen2
            have HLB := Lib.hid hlb
            clear hlb halN hno
            dsimp only
            go_wp2_with fail
            with_reducible refine hrg.mono ?_
            rintro e w5 ⟨q1, c1, rfl, hq5, hc5⟩
            rw [← hks] at hq5
            have hC4 := hC.andThen hc4 (fun k e => .inl (by rcases e with e | e <;> (show w.heap.size ≤ k) <;> omega))
            have HLN := Lib.hid (show al.length + 1 = alN.length from hlen2.symm)
            have hlb := HLB.out
            have hrN : (aKeys alN).Pairwise (· < ·) := by
              rw [hks, List.pairwise_append]
              exact ⟨hr, by simp, fun u hu v hv => by rw [List.mem_singleton.1 hv]; have := hbd u hu; omega⟩
            have hbN : ∀ k ∈ aKeys alN, 1 ≤ k ∧ k ≤ lb := fun k hk => by
              rw [hks] at hk
              rcases List.mem_append.1 hk with hk | hk
              · have := hbd k hk; omega
              · rw [List.mem_singleton.1 hk]; omega
            have hlaN : 0 ≤ lb ∧ lb ≤ (i : Int) + 1 := by omega
            have hlN : alN.length ≤ i + 1 := by omega
            clear hg hrg y0 y1 y2 hlb hks hlen2
            have hX5 := heap_al (hc5.heap hX4 (fun e => e)) (.cells #[.slice q1 (al.length + 1) c1, .int .i64 lb, .int .i64 M] 27)
            have z0 := cellOf hX5 0 rfl
            have z1 := cellOf hX5 1 rfl
            have z2 := cellOf hX5 2 rfl
            have f0 := freeOf hX5 0
            have f1 := freeOf hX5 1
            have f2 := freeOf hX5 2
            have m9 := three_set (u0 := .slice q1 (al.length + 1) c1) (u1 := .int .i64 lb) (u2 := .int .i64 M) hX5
            dsimp only
            go_wp2_with fail
            obtain ⟨w3, hw3⟩ : ∃ z, z = ((((w5.alloc (.cells #[.slice q1 (al.length + 1) c1, .int .i64 lb, .int .i64 M] 27)).setCell ⟨X, 0, none⟩ (.slice q1 (al.length + 1) c1)).setCell ⟨X, 1, none⟩ (.int .i64 lb)).setCell ⟨X, 2, none⟩ (.int .i64 M)) := ⟨_, rfl⟩
            have hcX : Ch (One X) w5 w3 := by rw [hw3]; exact (((((Ch.refl (One X) w5).alloc _).setIn (p := ⟨X, 0, none⟩) rfl _).setIn (p := ⟨X, 1, none⟩) rfl _).setIn (p := ⟨X, 2, none⟩) rfl _)
            rw [← hw3] at m9 ⊢
            have hX3 := m9
            have hB3 := (hB4.ch0 hc5).ch hcX (fun e => by have : b = X := e; omega) (fun e => by have : m = X := e; omega)
            have hq3 := hq5.ch hcX (fun k e => .inl e)
            have hC3 := (hC4.then0 hc5).andThen hcX (fun k e => .inl (by have : k = X := e; show w.heap.size ≤ k; omega))
            obtain ⟨al3, hal3⟩ : ∃ z, z = alN := ⟨_, rfl⟩
            obtain ⟨la3, hla3⟩ : ∃ z, z = lb := ⟨_, rfl⟩
            obtain ⟨q3, hq3'⟩ : ∃ z, z = q1 := ⟨_, rfl⟩
            obtain ⟨c3, hc3'⟩ : ∃ z, z = c1 := ⟨_, rfl⟩
            (try rw [HLN.out] at hX3)
            rw [← hal3] at hX3
            (try rw [HLN.out])
            rw [← hal3, ← hla3, ← hq3', ← hc3']
            rw [← hal3] at hB3 hq3 hrN hbN hlN
            rw [← hla3] at hX3 hB3 hbN hlaN
            rw [← hq3', ← hc3'] at hX3 hq3
            have hr3 := hrN; have hb3 := hbN
            have hla3b := hlaN
            have hal3b := hlN
            clear hw3 hal3 hla3 hq3' hc3' m9 z0 z1 z2 f0 f1 f2 hX5 hX4 hrN hbN hlaN hlN hq5 hB4 hC4
            have hd3 : Ch No w3 w3.drew := (Ch.refl _ _).drew
            have hk3l : (aKeys al3).length = al3.length := aKeys_length al3
            have hso3 : keysOf al3 = aKeys al3 := sorted_of (hr3.imp (fun h => by omega))
            have hI3 : ∀ k ∈ aKeys al3, I64 k := fun k hk => by have := hb3 k hk; exact show _ ∧ _ from by omega
            have hmem3 : (aGet al3 x).isSome = decide (x ∈ aKeys al3) := by
              by_cases hx : x ∈ aKeys al3
              · rw [decide_eq_true hx]; exact aKeys_mem.1 hx
              · rw [decide_eq_false hx]
                cases e : (aGet al3 x).isSome with
                | false => rfl
                | true => exact absurd (aKeys_mem.2 e) hx
            obtain ⟨V, hV⟩ : ∃ V : Bool, V = decide (x ∈ aKeys al3) := ⟨_, rfl⟩
            have hall : ∀ W', Ch No w3.drew W' → Calls Try.prog 19 #[.pointer (some ⟨b, 0, none⟩)] W' fun e w' => ∃ q c, e = .returned (.slice q al3.length c) ∧ SlR (intRp .i64) No w' q c (aKeys al3) ∧ Ch No W' w' := fun W' hc => by
              have := ids_All No W' b m al3 la3 M ((hB3.ch0 hd3).ch0 hc) hI3 (by omega) (fun k e => e.elim)
              rw [hso3] at this
              exact this
            have hsm : ∀ W', Ch No w3.drew W' → ∀ qn cn, SlR (intRp .i64) No W' qn cn (aKeys al3) → Calls Try.prog 18 #[.slice qn al3.length cn, .slice q3 al3.length c3] W' fun e w' => e = .returned (.bool true) ∧ Ch No W' w' := fun W' hc qn cn hq => by
              have := ref04_Same No (fun k => k = X ∨ k = b ∨ k = m) W' _ _ _ _ _ _ hq ((hq3.ch0 hd3).ch0 hc) (by omega) (by omega)
              rw [decide_eq_true rfl, hk3l] at this
              exact this
            have hlast : ∀ W', Ch No w3.drew W' → Calls Try.prog 20 #[.pointer (some ⟨b, 0, none⟩)] W' fun e w' => e = .returned (.int .i64 la3) ∧ W' = w' := fun W' hc => ids_Last W' b m al3 la3 M ((hB3.ch0 hd3).ch0 hc)
            have hlv : ∀ W', Ch No w3.drew W' → Calls Try.prog 21 #[.pointer (some ⟨b, 0, none⟩), .int .i64 x] W' fun e w' => e = .returned (.bool V) ∧ Ch No W' w' := fun W' hc => by
              rw [hV, ← hmem3]
              exact ids_Lives W' b m al3 la3 M x ((hB3.ch0 hd3).ch0 hc) ix
            have hrl : ∀ W', Ch No w3.drew W' → Calls Try.prog 22 #[.agg #[.slice q3 al3.length c3, .int .i64 la3, .int .i64 M], .int .i64 x] W' fun e w' => e = .returned (.bool V) ∧ Ch No W' w' := fun W' hc => by
              rw [hV]
              have := ref04_Lives (fun k => k = X ∨ k = b ∨ k = m) W' q3 c3 (aKeys al3) la3 M x ((hq3.ch0 hd3).ch0 hc) ix (by omega)
              rw [hk3l] at this
              exact this
            have hXd := hd3.heap hX3 (fun q => q)
            have K20 : ∀ W', Ch No w3.drew W' → (fun w' : World => (w'.cell? ⟨X, 0, none⟩ = some (.slice q3 al3.length c3) ∧ w'.cell? ⟨X, 1, none⟩ = some (.int .i64 la3) ∧ w'.cell? ⟨X, 2, none⟩ = some (.int .i64 M)) ∧ Ch No w3.drew w') W' := fun W' hc => ⟨⟨hc.cell (cellOf hXd 0 rfl) (fun q => q), hc.cell (cellOf hXd 1 rfl) (fun q => q), hc.cell (cellOf hXd 2 rfl) (fun q => q)⟩, hc⟩
            have HR3 := Lib.hid hr3; have HB3 := Lib.hid hb3
            clear hV hmem3 hso3 hI3 hk3l hr3
            try go_wp2_with fail
            refine wp_region_held_drew (S := (fun w' : World => (w'.cell? ⟨X, 0, none⟩ = some (.slice q3 al3.length c3) ∧ w'.cell? ⟨X, 1, none⟩ = some (.int .i64 la3) ∧ w'.cell? ⟨X, 2, none⟩ = some (.int .i64 M)) ∧ Ch No w3.drew w')) (by kernel_rfl) (K20 _ (Ch.refl _ _)) (fun hHeld => ?_)
            refine wpAnyH_take (i := 0) (v := ?_) (by simp only [List.getElem?_toArray, List.getElem?_cons_zero, List.getElem?_cons_succ]; exact rfl) (by kernel_rfl) (by kernel_rfl) (by kernel_rfl) (by intro _ _ _ h; exact h) (Or.inl ⟨by rfl, ?_⟩) (by assumption) ?_
            rotate_left
            · intro w hSw
              (try dsimp only at hSw)
              go_simp
              try (with_reducible rfl)
            try simp only [Act.put, List.setIfInBounds_toArray, List.set_cons_zero, List.set_cons_succ]
            refine wpAnyH_take (i := 2) (v := ?_) (by simp only [List.getElem?_toArray, List.getElem?_cons_zero, List.getElem?_cons_succ]; exact rfl) (by kernel_rfl) (by kernel_rfl) (by kernel_rfl) (by intro _ _ _ h; exact h) (Or.inl ⟨by rfl, ?_⟩) (by assumption) ?_
            rotate_left
            · intro w hSw
              (try dsimp only at hSw)
              go_simp
              try (with_reducible rfl)
            try simp only [Act.put, List.setIfInBounds_toArray, List.set_cons_zero, List.set_cons_succ]
            refine wpAnyH_take (i := 3) (v := ?_) (by simp only [List.getElem?_toArray, List.getElem?_cons_zero, List.getElem?_cons_succ]; exact rfl) (by kernel_rfl) (by kernel_rfl) (by kernel_rfl) (by intro _ _ _ h; exact h) (Or.inl ⟨by rfl, ?_⟩) (by assumption) ?_
            rotate_left
            · intro w hSw
              (try dsimp only at hSw)
              go_simp
              try (with_reducible rfl)
            try simp only [Act.put, List.setIfInBounds_toArray, List.set_cons_zero, List.set_cons_succ]
            refine wpAnyH_ready (rs := [1]) (by kernel_rfl) (by simp) ?_
            refine AllReadyH.cons (by simp only [List.getElem?_toArray, List.getElem?_cons_zero, List.getElem?_cons_succ]; exact rfl) (fun K hK => ?_) AllReadyH.nil
            go_simp
            (go_at_call 19; (with_reducible refine (hall _ (And.right (by assumption))).mono ?_); rintro e w9 ⟨qn, cn, rfl, hsn, hc9⟩; have hS9 := K20 _ (Ch.trans (And.right (by assumption)) hc9); (try dsimp only))
            try go_wp2_with fail
            refine hK.out _ _ ?_ (fun hHeld => ?_)
            · try dsimp only
              first | assumption | exact (by assumption) | fail
            clear hK K
            try simp only [Act.put, List.setIfInBounds_toArray, List.set_cons_zero, List.set_cons_succ]
            refine wpAnyH_ready (rs := [4]) (by kernel_rfl) (by simp) ?_
            refine AllReadyH.cons (by simp only [List.getElem?_toArray, List.getElem?_cons_zero, List.getElem?_cons_succ]; exact rfl) (fun K hK => ?_) AllReadyH.nil
            go_simp
            (go_at_call 18; (with_reducible refine (hsm _ (And.right (by assumption)) qn cn hsn).mono ?_); rintro e w9 ⟨rfl, hc9⟩; have hS9 := K20 _ (Ch.trans (And.right (by assumption)) hc9); (try dsimp only))
            try go_wp2_with fail
            refine hK.out _ _ ?_ (fun hHeld => ?_)
            · try dsimp only
              first | assumption | exact (by assumption) | fail
            clear hK K
            try simp only [Act.put, List.setIfInBounds_toArray, List.set_cons_zero, List.set_cons_succ]
            refine wpAnyH_take (i := 5) (v := ?_) (by simp only [List.getElem?_toArray, List.getElem?_cons_zero, List.getElem?_cons_succ]; exact rfl) (by kernel_rfl) (by kernel_rfl) (by kernel_rfl) (by intro _ _ _ h; exact h) (Or.inl ⟨by rfl, ?_⟩) (by assumption) ?_
            rotate_left
            · intro w hSw
              (try dsimp only at hSw)
              go_simp
              try (with_reducible rfl)
            try simp only [Act.put, List.setIfInBounds_toArray, List.set_cons_zero, List.set_cons_succ]
            refine wpAnyH_take (i := 6) (v := ?_) (by simp only [List.getElem?_toArray, List.getElem?_cons_zero, List.getElem?_cons_succ]; exact rfl) (by kernel_rfl) (by kernel_rfl) (by kernel_rfl) (by intro _ _ _ h; exact h) (Or.inl ⟨by rfl, ?_⟩) (by assumption) ?_
            rotate_left
            · intro w hSw
              (try dsimp only at hSw)
              go_simp
              try (with_reducible rfl)
            try simp only [Act.put, List.setIfInBounds_toArray, List.set_cons_zero, List.set_cons_succ]
            refine wpAnyH_take (i := 7) (v := ?_) (by simp only [List.getElem?_toArray, List.getElem?_cons_zero, List.getElem?_cons_succ]; exact rfl) (by kernel_rfl) (by kernel_rfl) (by kernel_rfl) (by intro _ _ _ h; exact h) (Or.inl ⟨by rfl, ?_⟩) (by assumption) ?_
            rotate_left
            · intro w hSw
              (try dsimp only at hSw)
              go_simp
              try (with_reducible rfl)
            try simp only [Act.put, List.setIfInBounds_toArray, List.set_cons_zero, List.set_cons_succ]
            refine wpAnyH_take (i := 9) (v := ?_) (by simp only [List.getElem?_toArray, List.getElem?_cons_zero, List.getElem?_cons_succ]; exact rfl) (by kernel_rfl) (by kernel_rfl) (by kernel_rfl) (by intro _ _ _ h; exact h) (Or.inl ⟨by rfl, ?_⟩) (by assumption) ?_
            rotate_left
            · intro w hSw
              (try dsimp only at hSw)
              go_simp
              try (with_reducible rfl)
            try simp only [Act.put, List.setIfInBounds_toArray, List.set_cons_zero, List.set_cons_succ]
            refine wpAnyH_take (i := 10) (v := ?_) (by simp only [List.getElem?_toArray, List.getElem?_cons_zero, List.getElem?_cons_succ]; exact rfl) (by kernel_rfl) (by kernel_rfl) (by kernel_rfl) (by intro _ _ _ h; exact h) (Or.inl ⟨by rfl, ?_⟩) (by assumption) ?_
            rotate_left
            · intro w hSw
              (try dsimp only at hSw)
              go_simp
              try (with_reducible rfl)
            try simp only [Act.put, List.setIfInBounds_toArray, List.set_cons_zero, List.set_cons_succ]
            refine wpAnyH_ready (rs := [8]) (by kernel_rfl) (by simp) ?_
            refine AllReadyH.cons (by simp only [List.getElem?_toArray, List.getElem?_cons_zero, List.getElem?_cons_succ]; exact rfl) (fun K hK => ?_) AllReadyH.nil
            go_simp
            (go_at_call 20; (with_reducible refine (hlast _ (And.right (by assumption))).mono ?_); rintro e w9 ⟨rfl, rfl⟩; (try dsimp only))
            try go_wp2_with fail
            refine hK.out _ _ ?_ (fun hHeld => ?_)
            · try dsimp only
              first | assumption | exact (by assumption) | fail
            clear hK K
            try simp only [Act.put, List.setIfInBounds_toArray, List.set_cons_zero, List.set_cons_succ]
            refine wpAnyH_take (i := 11) (v := ?_) (by simp only [List.getElem?_toArray, List.getElem?_cons_zero, List.getElem?_cons_succ]; exact rfl) (by kernel_rfl) (by kernel_rfl) (by kernel_rfl) (by intro _ _ _ h; exact h) (Or.inl ⟨by rfl, ?_⟩) (by assumption) ?_
            rotate_left
            · intro w hSw
              (try dsimp only at hSw)
              go_simp
              try (with_reducible rfl)
            try simp only [Act.put, List.setIfInBounds_toArray, List.set_cons_zero, List.set_cons_succ]
            refine wpAnyH_take (i := 12) (v := ?_) (by simp only [List.getElem?_toArray, List.getElem?_cons_zero, List.getElem?_cons_succ]; exact rfl) (by kernel_rfl) (by kernel_rfl) (by kernel_rfl) (by intro _ _ _ h; exact h) (Or.inl ⟨by rfl, ?_⟩) (by assumption) ?_
            rotate_left
            · intro w hSw
              (try dsimp only at hSw)
              go_simp
              try (with_reducible rfl)
            try simp only [Act.put, List.setIfInBounds_toArray, List.set_cons_zero, List.set_cons_succ]
            refine wpAnyH_take (i := 13) (v := ?_) (by simp only [List.getElem?_toArray, List.getElem?_cons_zero, List.getElem?_cons_succ]; exact rfl) (by kernel_rfl) (by kernel_rfl) (by kernel_rfl) (by intro _ _ _ h; exact h) (Or.inl ⟨by rfl, ?_⟩) (by assumption) ?_
            rotate_left
            · intro w hSw
              (try dsimp only at hSw)
              go_simp
              try (with_reducible rfl)
            try simp only [Act.put, List.setIfInBounds_toArray, List.set_cons_zero, List.set_cons_succ]
            refine wpAnyH_take (i := 14) (v := ?_) (by simp only [List.getElem?_toArray, List.getElem?_cons_zero, List.getElem?_cons_succ]; exact rfl) (by kernel_rfl) (by kernel_rfl) (by kernel_rfl) (by intro _ _ _ h; exact h) (Or.inl ⟨by rfl, ?_⟩) (by assumption) ?_
            rotate_left
            · intro w hSw
              (try dsimp only at hSw)
              go_simp
              try (with_reducible rfl)
            try simp only [Act.put, List.setIfInBounds_toArray, List.set_cons_zero, List.set_cons_succ]
            refine wpAnyH_take (i := 15) (v := ?_) (by simp only [List.getElem?_toArray, List.getElem?_cons_zero, List.getElem?_cons_succ]; exact rfl) (by kernel_rfl) (by kernel_rfl) (by kernel_rfl) (by intro _ _ _ h; exact h) (Or.inl ⟨by rfl, ?_⟩) (by assumption) ?_
            rotate_left
            · intro w hSw
              (try dsimp only at hSw)
              go_simp
              try (with_reducible rfl)
            try simp only [Act.put, List.setIfInBounds_toArray, List.set_cons_zero, List.set_cons_succ]
            refine wpAnyH_take (i := 17) (v := ?_) (by simp only [List.getElem?_toArray, List.getElem?_cons_zero, List.getElem?_cons_succ]; exact rfl) (by kernel_rfl) (by kernel_rfl) (by kernel_rfl) (by intro _ _ _ h; exact h) (Or.inl ⟨by rfl, ?_⟩) (by assumption) ?_
            rotate_left
            · intro w hSw
              (try dsimp only at hSw)
              go_simp
              try (with_reducible rfl)
            try simp only [Act.put, List.setIfInBounds_toArray, List.set_cons_zero, List.set_cons_succ]
            refine wpAnyH_take (i := 18) (v := ?_) (by simp only [List.getElem?_toArray, List.getElem?_cons_zero, List.getElem?_cons_succ]; exact rfl) (by kernel_rfl) (by kernel_rfl) (by kernel_rfl) (by intro _ _ _ h; exact h) (Or.inl ⟨by rfl, ?_⟩) (by assumption) ?_
            rotate_left
            · intro w hSw
              (try dsimp only at hSw)
              go_simp
              try (with_reducible rfl)
            try simp only [Act.put, List.setIfInBounds_toArray, List.set_cons_zero, List.set_cons_succ]
            refine wpAnyH_ready (rs := [16]) (by kernel_rfl) (by simp) ?_
            refine AllReadyH.cons (by simp only [List.getElem?_toArray, List.getElem?_cons_zero, List.getElem?_cons_succ]; exact rfl) (fun K hK => ?_) AllReadyH.nil
            go_simp
            (go_at_call 21; (with_reducible refine (hlv _ (And.right (by assumption))).mono ?_); rintro e w9 ⟨rfl, hc9⟩; have hS9 := K20 _ (Ch.trans (And.right (by assumption)) hc9); (try dsimp only))
            try go_wp2_with fail
            refine hK.out _ _ ?_ (fun hHeld => ?_)
            · try dsimp only
              first | assumption | exact (by assumption) | fail
            clear hK K
            try simp only [Act.put, List.setIfInBounds_toArray, List.set_cons_zero, List.set_cons_succ]
            refine wpAnyH_ready (rs := [19]) (by kernel_rfl) (by simp) ?_
            refine AllReadyH.cons (by simp only [List.getElem?_toArray, List.getElem?_cons_zero, List.getElem?_cons_succ]; exact rfl) (fun K hK => ?_) AllReadyH.nil
            go_simp
            (go_at_call 22; (with_reducible refine (hrl _ (And.right (by assumption))).mono ?_); rintro e w9 ⟨rfl, hc9⟩; have hS9 := K20 _ (Ch.trans (And.right (by assumption)) hc9); (try dsimp only))
            try go_wp2_with fail
            refine hK.out _ _ ?_ (fun hHeld => ?_)
            · try dsimp only
              first | assumption | exact (by assumption) | fail
            clear hK K
            try simp only [Act.put, List.setIfInBounds_toArray, List.set_cons_zero, List.set_cons_succ]
            refine wpAnyH_take (i := 20) (v := ?_) (by simp only [List.getElem?_toArray, List.getElem?_cons_zero, List.getElem?_cons_succ]; exact rfl) (by kernel_rfl) (by kernel_rfl) (by kernel_rfl) (by intro _ _ _ h; exact h) (Or.inl ⟨by rfl, ?_⟩) (by assumption) ?_
            rotate_left
            · intro w hSw
              (try dsimp only at hSw)
              go_simp
              try (with_reducible rfl)
            try simp only [Act.put, List.setIfInBounds_toArray, List.set_cons_zero, List.set_cons_succ]
            refine wpAnyH_take (i := 21) (v := ?_) (by simp only [List.getElem?_toArray, List.getElem?_cons_zero, List.getElem?_cons_succ]; exact rfl) (by kernel_rfl) (by kernel_rfl) (by kernel_rfl) (by intro _ _ _ h; exact h) (Or.inl ⟨by rfl, ?_⟩) (by assumption) ?_
            rotate_left
            · intro w hSw
              (try dsimp only at hSw)
              go_simp
              try (with_reducible rfl)
            try simp only [Act.put, List.setIfInBounds_toArray, List.set_cons_zero, List.set_cons_succ]
            refine wpAnyH_done (by kernel_rfl) ?_ _
            have hcF : Ch No w3 _ := hd3.trans hS9.2
            try go_wp2_with fail
            go_roundw
            case rel => exact ⟨i + 1, al3, la3, q3, c3, by omega, by go_num, hB3.ch0 hcF, hcF.heap hX3 (fun q => q), hq3.ch0 hcF, HR3.out, HB3.out, by omega, by omega, hC3.then0 hcF⟩
            case measure => exact meas_lt (by omega)
        · have b1 : decide (x < 1) = false := decide_eq_false hx1
          have hrg := fun W (h : SlR (intRp .i64) (fun k => k = X ∨ k = b ∨ k = m) W q c' (aKeys al)) (h2 : wr.heap.size ≤ W.heap.size) => ref04_Take (fun k => k = X ∨ k = b ∨ k = m) W q c' (aKeys al) la M x h ix (by omega) (fun k e => by rcases e with e | e | e <;> omega)
          rw [hkl] at hrg
          by_cases hin : x ∈ aKeys al
          · simp only [if_pos hin] at hrg
            obtain ⟨vv, hvv⟩ := Option.isSome_iff_exists.1 (aKeys_mem.1 hin)
            have hg := ids_Take wr b m al la M x vv hB ix hvv
            have hks : aKeys (aDel al x) = (aKeys al).filter (· != x) := aDel_keys al x hB.map.nodup
            obtain ⟨alN, halN⟩ : ∃ z, z = aDel al x := ⟨_, rfl⟩
            rw [← halN] at hg hks
            clear hx1 hin hvv halN
            go_wp2_with fail
            with_reducible refine hg.mono ?_
            rintro e w4 ⟨rfl, hB4, hc4⟩
            have hX4 := hc4.heap hXr (fun e => by have : X = m := e; omega)
            have hq4 := hq.ch hc4 (fun k e => .inr (.inr e))
            have hrg4 := hrg w4 hq4 hc4.size
            have y0 := cellOf hX4 0 rfl
            have y1 := cellOf hX4 1 rfl
            have y2 := cellOf hX4 2 rfl
            have hlF : ((aKeys al).filter (· != x)).length = alN.length := by rw [← hks, aKeys_length]
            rw [hlF] at hrg4
            dsimp only
            go_wp2_with fail
            with_reducible refine hrg4.mono ?_
            rintro e w5 ⟨q1, c1, rfl, hq5, hc5⟩
            rw [← hks] at hq5
            have hC4 := hC.andThen hc4 (fun k e => .inl (by have : k = m := e; show w.heap.size ≤ k; omega))
            have HLN := Lib.hid (show alN.length = alN.length from rfl)
            have hrN : (aKeys alN).Pairwise (· < ·) := by rw [hks]; exact hr.filter _
            have hbN : ∀ k ∈ aKeys alN, 1 ≤ k ∧ k ≤ la := fun k hk => by rw [hks] at hk; exact hbd k (List.mem_filter.1 hk).1
            have hlaN : 0 ≤ la ∧ la ≤ (i : Int) + 1 := by omega
            have hlN : alN.length ≤ i + 1 := by have := List.length_filter_le (· != x) (aKeys al); omega
            clear hg hrg hrg4 y0 y1 y2 hks hlF
            have hX5 := heap_al (hc5.heap hX4 (fun e => e)) (.cells #[.slice q1 alN.length c1, .int .i64 la, .int .i64 M] 27)
            have z0 := cellOf hX5 0 rfl
            have z1 := cellOf hX5 1 rfl
            have z2 := cellOf hX5 2 rfl
            have f0 := freeOf hX5 0
            have f1 := freeOf hX5 1
            have f2 := freeOf hX5 2
            have m9 := three_set (u0 := .slice q1 alN.length c1) (u1 := .int .i64 la) (u2 := .int .i64 M) hX5
            dsimp only
            go_wp2_with fail
            obtain ⟨w3, hw3⟩ : ∃ z, z = ((((w5.alloc (.cells #[.slice q1 alN.length c1, .int .i64 la, .int .i64 M] 27)).setCell ⟨X, 0, none⟩ (.slice q1 alN.length c1)).setCell ⟨X, 1, none⟩ (.int .i64 la)).setCell ⟨X, 2, none⟩ (.int .i64 M)) := ⟨_, rfl⟩
            have hcX : Ch (One X) w5 w3 := by rw [hw3]; exact (((((Ch.refl (One X) w5).alloc _).setIn (p := ⟨X, 0, none⟩) rfl _).setIn (p := ⟨X, 1, none⟩) rfl _).setIn (p := ⟨X, 2, none⟩) rfl _)
            rw [← hw3] at m9 ⊢
            have hX3 := m9
            have hB3 := (hB4.ch0 hc5).ch hcX (fun e => by have : b = X := e; omega) (fun e => by have : m = X := e; omega)
            have hq3 := hq5.ch hcX (fun k e => .inl e)
            have hC3 := (hC4.then0 hc5).andThen hcX (fun k e => .inl (by have : k = X := e; show w.heap.size ≤ k; omega))
            obtain ⟨al3, hal3⟩ : ∃ z, z = alN := ⟨_, rfl⟩
            obtain ⟨la3, hla3⟩ : ∃ z, z = la := ⟨_, rfl⟩
            obtain ⟨q3, hq3'⟩ : ∃ z, z = q1 := ⟨_, rfl⟩
            obtain ⟨c3, hc3'⟩ : ∃ z, z = c1 := ⟨_, rfl⟩
            (try rw [HLN.out] at hX3)
            rw [← hal3] at hX3
            (try rw [HLN.out])
            rw [← hal3, ← hla3, ← hq3', ← hc3']
            rw [← hal3] at hB3 hq3 hrN hbN hlN
            rw [← hla3] at hX3 hB3 hbN hlaN
            rw [← hq3', ← hc3'] at hX3 hq3
            have hr3 := hrN; have hb3 := hbN
            have hla3b := hlaN
            have hal3b := hlN
            clear hw3 hal3 hla3 hq3' hc3' m9 z0 z1 z2 f0 f1 f2 hX5 hX4 hrN hbN hlaN hlN hq5 hB4 hC4
            have hd3 : Ch No w3 w3.drew := (Ch.refl _ _).drew
            have hk3l : (aKeys al3).length = al3.length := aKeys_length al3
            have hso3 : keysOf al3 = aKeys al3 := sorted_of (hr3.imp (fun h => by omega))
            have hI3 : ∀ k ∈ aKeys al3, I64 k := fun k hk => by have := hb3 k hk; exact show _ ∧ _ from by omega
            have hmem3 : (aGet al3 x).isSome = decide (x ∈ aKeys al3) := by
              by_cases hx : x ∈ aKeys al3
              · rw [decide_eq_true hx]; exact aKeys_mem.1 hx
              · rw [decide_eq_false hx]
                cases e : (aGet al3 x).isSome with
                | false => rfl
                | true => exact absurd (aKeys_mem.2 e) hx
            obtain ⟨V, hV⟩ : ∃ V : Bool, V = decide (x ∈ aKeys al3) := ⟨_, rfl⟩
            have hall : ∀ W', Ch No w3.drew W' → Calls Try.prog 19 #[.pointer (some ⟨b, 0, none⟩)] W' fun e w' => ∃ q c, e = .returned (.slice q al3.length c) ∧ SlR (intRp .i64) No w' q c (aKeys al3) ∧ Ch No W' w' := fun W' hc => by
              have := ids_All No W' b m al3 la3 M ((hB3.ch0 hd3).ch0 hc) hI3 (by omega) (fun k e => e.elim)
              rw [hso3] at this
              exact this
            have hsm : ∀ W', Ch No w3.drew W' → ∀ qn cn, SlR (intRp .i64) No W' qn cn (aKeys al3) → Calls Try.prog 18 #[.slice qn al3.length cn, .slice q3 al3.length c3] W' fun e w' => e = .returned (.bool true) ∧ Ch No W' w' := fun W' hc qn cn hq => by
              have := ref04_Same No (fun k => k = X ∨ k = b ∨ k = m) W' _ _ _ _ _ _ hq ((hq3.ch0 hd3).ch0 hc) (by omega) (by omega)
              rw [decide_eq_true rfl, hk3l] at this
              exact this
            have hlast : ∀ W', Ch No w3.drew W' → Calls Try.prog 20 #[.pointer (some ⟨b, 0, none⟩)] W' fun e w' => e = .returned (.int .i64 la3) ∧ W' = w' := fun W' hc => ids_Last W' b m al3 la3 M ((hB3.ch0 hd3).ch0 hc)
            have hlv : ∀ W', Ch No w3.drew W' → Calls Try.prog 21 #[.pointer (some ⟨b, 0, none⟩), .int .i64 x] W' fun e w' => e = .returned (.bool V) ∧ Ch No W' w' := fun W' hc => by
              rw [hV, ← hmem3]
              exact ids_Lives W' b m al3 la3 M x ((hB3.ch0 hd3).ch0 hc) ix
            have hrl : ∀ W', Ch No w3.drew W' → Calls Try.prog 22 #[.agg #[.slice q3 al3.length c3, .int .i64 la3, .int .i64 M], .int .i64 x] W' fun e w' => e = .returned (.bool V) ∧ Ch No W' w' := fun W' hc => by
              rw [hV]
              have := ref04_Lives (fun k => k = X ∨ k = b ∨ k = m) W' q3 c3 (aKeys al3) la3 M x ((hq3.ch0 hd3).ch0 hc) ix (by omega)
              rw [hk3l] at this
              exact this
            have hXd := hd3.heap hX3 (fun q => q)
            have K20 : ∀ W', Ch No w3.drew W' → (fun w' : World => (w'.cell? ⟨X, 0, none⟩ = some (.slice q3 al3.length c3) ∧ w'.cell? ⟨X, 1, none⟩ = some (.int .i64 la3) ∧ w'.cell? ⟨X, 2, none⟩ = some (.int .i64 M)) ∧ Ch No w3.drew w') W' := fun W' hc => ⟨⟨hc.cell (cellOf hXd 0 rfl) (fun q => q), hc.cell (cellOf hXd 1 rfl) (fun q => q), hc.cell (cellOf hXd 2 rfl) (fun q => q)⟩, hc⟩
            have HR3 := Lib.hid hr3; have HB3 := Lib.hid hb3
            clear hV hmem3 hso3 hI3 hk3l hr3
            try go_wp2_with fail
            refine wp_region_held_drew (S := (fun w' : World => (w'.cell? ⟨X, 0, none⟩ = some (.slice q3 al3.length c3) ∧ w'.cell? ⟨X, 1, none⟩ = some (.int .i64 la3) ∧ w'.cell? ⟨X, 2, none⟩ = some (.int .i64 M)) ∧ Ch No w3.drew w')) (by kernel_rfl) (K20 _ (Ch.refl _ _)) (fun hHeld => ?_)
            refine wpAnyH_take (i := 0) (v := ?_) (by simp only [List.getElem?_toArray, List.getElem?_cons_zero, List.getElem?_cons_succ]; exact rfl) (by kernel_rfl) (by kernel_rfl) (by kernel_rfl) (by intro _ _ _ h; exact h) (Or.inl ⟨by rfl, ?_⟩) (by assumption) ?_
            rotate_left
            · intro w hSw
              (try dsimp only at hSw)
              go_simp
              try (with_reducible rfl)
            try simp only [Act.put, List.setIfInBounds_toArray, List.set_cons_zero, List.set_cons_succ]
            refine wpAnyH_take (i := 2) (v := ?_) (by simp only [List.getElem?_toArray, List.getElem?_cons_zero, List.getElem?_cons_succ]; exact rfl) (by kernel_rfl) (by kernel_rfl) (by kernel_rfl) (by intro _ _ _ h; exact h) (Or.inl ⟨by rfl, ?_⟩) (by assumption) ?_
            rotate_left
            · intro w hSw
              (try dsimp only at hSw)
              go_simp
              try (with_reducible rfl)
            try simp only [Act.put, List.setIfInBounds_toArray, List.set_cons_zero, List.set_cons_succ]
            refine wpAnyH_take (i := 3) (v := ?_) (by simp only [List.getElem?_toArray, List.getElem?_cons_zero, List.getElem?_cons_succ]; exact rfl) (by kernel_rfl) (by kernel_rfl) (by kernel_rfl) (by intro _ _ _ h; exact h) (Or.inl ⟨by rfl, ?_⟩) (by assumption) ?_
            rotate_left
            · intro w hSw
              (try dsimp only at hSw)
              go_simp
              try (with_reducible rfl)
            try simp only [Act.put, List.setIfInBounds_toArray, List.set_cons_zero, List.set_cons_succ]
            refine wpAnyH_ready (rs := [1]) (by kernel_rfl) (by simp) ?_
            refine AllReadyH.cons (by simp only [List.getElem?_toArray, List.getElem?_cons_zero, List.getElem?_cons_succ]; exact rfl) (fun K hK => ?_) AllReadyH.nil
            go_simp
            (go_at_call 19; (with_reducible refine (hall _ (And.right (by assumption))).mono ?_); rintro e w9 ⟨qn, cn, rfl, hsn, hc9⟩; have hS9 := K20 _ (Ch.trans (And.right (by assumption)) hc9); (try dsimp only))
            try go_wp2_with fail
            refine hK.out _ _ ?_ (fun hHeld => ?_)
            · try dsimp only
              first | assumption | exact (by assumption) | fail
            clear hK K
            try simp only [Act.put, List.setIfInBounds_toArray, List.set_cons_zero, List.set_cons_succ]
            refine wpAnyH_ready (rs := [4]) (by kernel_rfl) (by simp) ?_
            refine AllReadyH.cons (by simp only [List.getElem?_toArray, List.getElem?_cons_zero, List.getElem?_cons_succ]; exact rfl) (fun K hK => ?_) AllReadyH.nil
            go_simp
            (go_at_call 18; (with_reducible refine (hsm _ (And.right (by assumption)) qn cn hsn).mono ?_); rintro e w9 ⟨rfl, hc9⟩; have hS9 := K20 _ (Ch.trans (And.right (by assumption)) hc9); (try dsimp only))
            try go_wp2_with fail
            refine hK.out _ _ ?_ (fun hHeld => ?_)
            · try dsimp only
              first | assumption | exact (by assumption) | fail
            clear hK K
            try simp only [Act.put, List.setIfInBounds_toArray, List.set_cons_zero, List.set_cons_succ]
            refine wpAnyH_take (i := 5) (v := ?_) (by simp only [List.getElem?_toArray, List.getElem?_cons_zero, List.getElem?_cons_succ]; exact rfl) (by kernel_rfl) (by kernel_rfl) (by kernel_rfl) (by intro _ _ _ h; exact h) (Or.inl ⟨by rfl, ?_⟩) (by assumption) ?_
            rotate_left
            · intro w hSw
              (try dsimp only at hSw)
              go_simp
              try (with_reducible rfl)
            try simp only [Act.put, List.setIfInBounds_toArray, List.set_cons_zero, List.set_cons_succ]
            refine wpAnyH_take (i := 6) (v := ?_) (by simp only [List.getElem?_toArray, List.getElem?_cons_zero, List.getElem?_cons_succ]; exact rfl) (by kernel_rfl) (by kernel_rfl) (by kernel_rfl) (by intro _ _ _ h; exact h) (Or.inl ⟨by rfl, ?_⟩) (by assumption) ?_
            rotate_left
            · intro w hSw
              (try dsimp only at hSw)
              go_simp
              try (with_reducible rfl)
            try simp only [Act.put, List.setIfInBounds_toArray, List.set_cons_zero, List.set_cons_succ]
            refine wpAnyH_take (i := 7) (v := ?_) (by simp only [List.getElem?_toArray, List.getElem?_cons_zero, List.getElem?_cons_succ]; exact rfl) (by kernel_rfl) (by kernel_rfl) (by kernel_rfl) (by intro _ _ _ h; exact h) (Or.inl ⟨by rfl, ?_⟩) (by assumption) ?_
            rotate_left
            · intro w hSw
              (try dsimp only at hSw)
              go_simp
              try (with_reducible rfl)
            try simp only [Act.put, List.setIfInBounds_toArray, List.set_cons_zero, List.set_cons_succ]
            refine wpAnyH_take (i := 9) (v := ?_) (by simp only [List.getElem?_toArray, List.getElem?_cons_zero, List.getElem?_cons_succ]; exact rfl) (by kernel_rfl) (by kernel_rfl) (by kernel_rfl) (by intro _ _ _ h; exact h) (Or.inl ⟨by rfl, ?_⟩) (by assumption) ?_
            rotate_left
            · intro w hSw
              (try dsimp only at hSw)
              go_simp
              try (with_reducible rfl)
            try simp only [Act.put, List.setIfInBounds_toArray, List.set_cons_zero, List.set_cons_succ]
            refine wpAnyH_take (i := 10) (v := ?_) (by simp only [List.getElem?_toArray, List.getElem?_cons_zero, List.getElem?_cons_succ]; exact rfl) (by kernel_rfl) (by kernel_rfl) (by kernel_rfl) (by intro _ _ _ h; exact h) (Or.inl ⟨by rfl, ?_⟩) (by assumption) ?_
            rotate_left
            · intro w hSw
              (try dsimp only at hSw)
              go_simp
              try (with_reducible rfl)
            try simp only [Act.put, List.setIfInBounds_toArray, List.set_cons_zero, List.set_cons_succ]
            refine wpAnyH_ready (rs := [8]) (by kernel_rfl) (by simp) ?_
            refine AllReadyH.cons (by simp only [List.getElem?_toArray, List.getElem?_cons_zero, List.getElem?_cons_succ]; exact rfl) (fun K hK => ?_) AllReadyH.nil
            go_simp
            (go_at_call 20; (with_reducible refine (hlast _ (And.right (by assumption))).mono ?_); rintro e w9 ⟨rfl, rfl⟩; (try dsimp only))
            try go_wp2_with fail
            refine hK.out _ _ ?_ (fun hHeld => ?_)
            · try dsimp only
              first | assumption | exact (by assumption) | fail
            clear hK K
            try simp only [Act.put, List.setIfInBounds_toArray, List.set_cons_zero, List.set_cons_succ]
            refine wpAnyH_take (i := 11) (v := ?_) (by simp only [List.getElem?_toArray, List.getElem?_cons_zero, List.getElem?_cons_succ]; exact rfl) (by kernel_rfl) (by kernel_rfl) (by kernel_rfl) (by intro _ _ _ h; exact h) (Or.inl ⟨by rfl, ?_⟩) (by assumption) ?_
            rotate_left
            · intro w hSw
              (try dsimp only at hSw)
              go_simp
              try (with_reducible rfl)
            try simp only [Act.put, List.setIfInBounds_toArray, List.set_cons_zero, List.set_cons_succ]
            refine wpAnyH_take (i := 12) (v := ?_) (by simp only [List.getElem?_toArray, List.getElem?_cons_zero, List.getElem?_cons_succ]; exact rfl) (by kernel_rfl) (by kernel_rfl) (by kernel_rfl) (by intro _ _ _ h; exact h) (Or.inl ⟨by rfl, ?_⟩) (by assumption) ?_
            rotate_left
            · intro w hSw
              (try dsimp only at hSw)
              go_simp
              try (with_reducible rfl)
            try simp only [Act.put, List.setIfInBounds_toArray, List.set_cons_zero, List.set_cons_succ]
            refine wpAnyH_take (i := 13) (v := ?_) (by simp only [List.getElem?_toArray, List.getElem?_cons_zero, List.getElem?_cons_succ]; exact rfl) (by kernel_rfl) (by kernel_rfl) (by kernel_rfl) (by intro _ _ _ h; exact h) (Or.inl ⟨by rfl, ?_⟩) (by assumption) ?_
            rotate_left
            · intro w hSw
              (try dsimp only at hSw)
              go_simp
              try (with_reducible rfl)
            try simp only [Act.put, List.setIfInBounds_toArray, List.set_cons_zero, List.set_cons_succ]
            refine wpAnyH_take (i := 14) (v := ?_) (by simp only [List.getElem?_toArray, List.getElem?_cons_zero, List.getElem?_cons_succ]; exact rfl) (by kernel_rfl) (by kernel_rfl) (by kernel_rfl) (by intro _ _ _ h; exact h) (Or.inl ⟨by rfl, ?_⟩) (by assumption) ?_
            rotate_left
            · intro w hSw
              (try dsimp only at hSw)
              go_simp
              try (with_reducible rfl)
            try simp only [Act.put, List.setIfInBounds_toArray, List.set_cons_zero, List.set_cons_succ]
            refine wpAnyH_take (i := 15) (v := ?_) (by simp only [List.getElem?_toArray, List.getElem?_cons_zero, List.getElem?_cons_succ]; exact rfl) (by kernel_rfl) (by kernel_rfl) (by kernel_rfl) (by intro _ _ _ h; exact h) (Or.inl ⟨by rfl, ?_⟩) (by assumption) ?_
            rotate_left
            · intro w hSw
              (try dsimp only at hSw)
              go_simp
              try (with_reducible rfl)
            try simp only [Act.put, List.setIfInBounds_toArray, List.set_cons_zero, List.set_cons_succ]
            refine wpAnyH_take (i := 17) (v := ?_) (by simp only [List.getElem?_toArray, List.getElem?_cons_zero, List.getElem?_cons_succ]; exact rfl) (by kernel_rfl) (by kernel_rfl) (by kernel_rfl) (by intro _ _ _ h; exact h) (Or.inl ⟨by rfl, ?_⟩) (by assumption) ?_
            rotate_left
            · intro w hSw
              (try dsimp only at hSw)
              go_simp
              try (with_reducible rfl)
            try simp only [Act.put, List.setIfInBounds_toArray, List.set_cons_zero, List.set_cons_succ]
            refine wpAnyH_take (i := 18) (v := ?_) (by simp only [List.getElem?_toArray, List.getElem?_cons_zero, List.getElem?_cons_succ]; exact rfl) (by kernel_rfl) (by kernel_rfl) (by kernel_rfl) (by intro _ _ _ h; exact h) (Or.inl ⟨by rfl, ?_⟩) (by assumption) ?_
            rotate_left
            · intro w hSw
              (try dsimp only at hSw)
              go_simp
              try (with_reducible rfl)
            try simp only [Act.put, List.setIfInBounds_toArray, List.set_cons_zero, List.set_cons_succ]
            refine wpAnyH_ready (rs := [16]) (by kernel_rfl) (by simp) ?_
            refine AllReadyH.cons (by simp only [List.getElem?_toArray, List.getElem?_cons_zero, List.getElem?_cons_succ]; exact rfl) (fun K hK => ?_) AllReadyH.nil
            go_simp
            (go_at_call 21; (with_reducible refine (hlv _ (And.right (by assumption))).mono ?_); rintro e w9 ⟨rfl, hc9⟩; have hS9 := K20 _ (Ch.trans (And.right (by assumption)) hc9); (try dsimp only))
            try go_wp2_with fail
            refine hK.out _ _ ?_ (fun hHeld => ?_)
            · try dsimp only
              first | assumption | exact (by assumption) | fail
            clear hK K
            try simp only [Act.put, List.setIfInBounds_toArray, List.set_cons_zero, List.set_cons_succ]
            refine wpAnyH_ready (rs := [19]) (by kernel_rfl) (by simp) ?_
            refine AllReadyH.cons (by simp only [List.getElem?_toArray, List.getElem?_cons_zero, List.getElem?_cons_succ]; exact rfl) (fun K hK => ?_) AllReadyH.nil
            go_simp
            (go_at_call 22; (with_reducible refine (hrl _ (And.right (by assumption))).mono ?_); rintro e w9 ⟨rfl, hc9⟩; have hS9 := K20 _ (Ch.trans (And.right (by assumption)) hc9); (try dsimp only))
            try go_wp2_with fail
            refine hK.out _ _ ?_ (fun hHeld => ?_)
            · try dsimp only
              first | assumption | exact (by assumption) | fail
            clear hK K
            try simp only [Act.put, List.setIfInBounds_toArray, List.set_cons_zero, List.set_cons_succ]
            refine wpAnyH_take (i := 20) (v := ?_) (by simp only [List.getElem?_toArray, List.getElem?_cons_zero, List.getElem?_cons_succ]; exact rfl) (by kernel_rfl) (by kernel_rfl) (by kernel_rfl) (by intro _ _ _ h; exact h) (Or.inl ⟨by rfl, ?_⟩) (by assumption) ?_
            rotate_left
            · intro w hSw
              (try dsimp only at hSw)
              go_simp
              try (with_reducible rfl)
            try simp only [Act.put, List.setIfInBounds_toArray, List.set_cons_zero, List.set_cons_succ]
            refine wpAnyH_take (i := 21) (v := ?_) (by simp only [List.getElem?_toArray, List.getElem?_cons_zero, List.getElem?_cons_succ]; exact rfl) (by kernel_rfl) (by kernel_rfl) (by kernel_rfl) (by intro _ _ _ h; exact h) (Or.inl ⟨by rfl, ?_⟩) (by assumption) ?_
            rotate_left
            · intro w hSw
              (try dsimp only at hSw)
              go_simp
              try (with_reducible rfl)
            try simp only [Act.put, List.setIfInBounds_toArray, List.set_cons_zero, List.set_cons_succ]
            refine wpAnyH_done (by kernel_rfl) ?_ _
            have hcF : Ch No w3 _ := hd3.trans hS9.2
            try go_wp2_with fail
            go_roundw
            case rel => exact ⟨i + 1, al3, la3, q3, c3, by omega, by go_num, hB3.ch0 hcF, hcF.heap hX3 (fun q => q), hq3.ch0 hcF, HR3.out, HB3.out, by omega, by omega, hC3.then0 hcF⟩
            case measure => exact meas_lt (by omega)
          · simp only [if_neg hin] at hrg
            have hvv : aGet al x = none := aGet_none hin
            have hg := ids_Take_no wr b m al la M x hB ix hvv
            have hks : (aKeys al).filter (· != x) = aKeys al := List.filter_eq_self.2 (fun y hy => by simp only [bne_iff_ne, ne_eq]; rintro rfl; exact hin hy)
            rw [hks, hkl] at hrg
            clear hx1 hin hvv hks
            go_wp2_with fail
            with_reducible refine hg.mono ?_
            rintro e w4 ⟨rfl, hc4⟩
            have hX4 := hc4.heap hXr (fun e => e)
            have hB4 := hB.ch0 hc4
            have hq4 := hq.ch0 hc4
            have hrg4 := hrg w4 hq4 hc4.size
            have y0 := cellOf hX4 0 rfl
            have y1 := cellOf hX4 1 rfl
            have y2 := cellOf hX4 2 rfl
            dsimp only
            go_wp2_with fail
            with_reducible refine hrg4.mono ?_
            rintro e w5 ⟨q1, c1, rfl, hq5, hc5⟩
            have hC4 := hC.then0 hc4
            have HLN := Lib.hid (show al.length = al.length from rfl)
            have hrN := hr; have hbN := hbd
            have hlaN : 0 ≤ la ∧ la ≤ (i : Int) + 1 := by omega
            have hlN : al.length ≤ i + 1 := by omega
            clear hg hrg hrg4 y0 y1 y2
            have hX5 := heap_al (hc5.heap hX4 (fun e => e)) (.cells #[.slice q1 al.length c1, .int .i64 la, .int .i64 M] 27)
            have z0 := cellOf hX5 0 rfl
            have z1 := cellOf hX5 1 rfl
            have z2 := cellOf hX5 2 rfl
            have f0 := freeOf hX5 0
            have f1 := freeOf hX5 1
            have f2 := freeOf hX5 2
            have m9 := three_set (u0 := .slice q1 al.length c1) (u1 := .int .i64 la) (u2 := .int .i64 M) hX5
            dsimp only
            go_wp2_with fail
            obtain ⟨w3, hw3⟩ : ∃ z, z = ((((w5.alloc (.cells #[.slice q1 al.length c1, .int .i64 la, .int .i64 M] 27)).setCell ⟨X, 0, none⟩ (.slice q1 al.length c1)).setCell ⟨X, 1, none⟩ (.int .i64 la)).setCell ⟨X, 2, none⟩ (.int .i64 M)) := ⟨_, rfl⟩
            have hcX : Ch (One X) w5 w3 := by rw [hw3]; exact (((((Ch.refl (One X) w5).alloc _).setIn (p := ⟨X, 0, none⟩) rfl _).setIn (p := ⟨X, 1, none⟩) rfl _).setIn (p := ⟨X, 2, none⟩) rfl _)
            rw [← hw3] at m9 ⊢
            have hX3 := m9
            have hB3 := (hB4.ch0 hc5).ch hcX (fun e => by have : b = X := e; omega) (fun e => by have : m = X := e; omega)
            have hq3 := hq5.ch hcX (fun k e => .inl e)
            have hC3 := (hC4.then0 hc5).andThen hcX (fun k e => .inl (by have : k = X := e; show w.heap.size ≤ k; omega))
            obtain ⟨al3, hal3⟩ : ∃ z, z = al := ⟨_, rfl⟩
            obtain ⟨la3, hla3⟩ : ∃ z, z = la := ⟨_, rfl⟩
            obtain ⟨q3, hq3'⟩ : ∃ z, z = q1 := ⟨_, rfl⟩
            obtain ⟨c3, hc3'⟩ : ∃ z, z = c1 := ⟨_, rfl⟩
            (try rw [HLN.out] at hX3)
            rw [← hal3] at hX3
            (try rw [HLN.out])
            rw [← hal3, ← hla3, ← hq3', ← hc3']
            rw [← hal3] at hB3 hq3 hrN hbN hlN
            rw [← hla3] at hX3 hB3 hbN hlaN
            rw [← hq3', ← hc3'] at hX3 hq3
            have hr3 := hrN; have hb3 := hbN
            have hla3b := hlaN
            have hal3b := hlN
            clear hw3 hal3 hla3 hq3' hc3' m9 z0 z1 z2 f0 f1 f2 hX5 hX4 hrN hbN hlaN hlN hq5 hB4 hC4
            have hd3 : Ch No w3 w3.drew := (Ch.refl _ _).drew
            have hk3l : (aKeys al3).length = al3.length := aKeys_length al3
            have hso3 : keysOf al3 = aKeys al3 := sorted_of (hr3.imp (fun h => by omega))
            have hI3 : ∀ k ∈ aKeys al3, I64 k := fun k hk => by have := hb3 k hk; exact show _ ∧ _ from by omega
            have hmem3 : (aGet al3 x).isSome = decide (x ∈ aKeys al3) := by
              by_cases hx : x ∈ aKeys al3
              · rw [decide_eq_true hx]; exact aKeys_mem.1 hx
              · rw [decide_eq_false hx]
                cases e : (aGet al3 x).isSome with
                | false => rfl
                | true => exact absurd (aKeys_mem.2 e) hx
            obtain ⟨V, hV⟩ : ∃ V : Bool, V = decide (x ∈ aKeys al3) := ⟨_, rfl⟩
            have hall : ∀ W', Ch No w3.drew W' → Calls Try.prog 19 #[.pointer (some ⟨b, 0, none⟩)] W' fun e w' => ∃ q c, e = .returned (.slice q al3.length c) ∧ SlR (intRp .i64) No w' q c (aKeys al3) ∧ Ch No W' w' := fun W' hc => by
              have := ids_All No W' b m al3 la3 M ((hB3.ch0 hd3).ch0 hc) hI3 (by omega) (fun k e => e.elim)
              rw [hso3] at this
              exact this
            have hsm : ∀ W', Ch No w3.drew W' → ∀ qn cn, SlR (intRp .i64) No W' qn cn (aKeys al3) → Calls Try.prog 18 #[.slice qn al3.length cn, .slice q3 al3.length c3] W' fun e w' => e = .returned (.bool true) ∧ Ch No W' w' := fun W' hc qn cn hq => by
              have := ref04_Same No (fun k => k = X ∨ k = b ∨ k = m) W' _ _ _ _ _ _ hq ((hq3.ch0 hd3).ch0 hc) (by omega) (by omega)
              rw [decide_eq_true rfl, hk3l] at this
              exact this
            have hlast : ∀ W', Ch No w3.drew W' → Calls Try.prog 20 #[.pointer (some ⟨b, 0, none⟩)] W' fun e w' => e = .returned (.int .i64 la3) ∧ W' = w' := fun W' hc => ids_Last W' b m al3 la3 M ((hB3.ch0 hd3).ch0 hc)
            have hlv : ∀ W', Ch No w3.drew W' → Calls Try.prog 21 #[.pointer (some ⟨b, 0, none⟩), .int .i64 x] W' fun e w' => e = .returned (.bool V) ∧ Ch No W' w' := fun W' hc => by
              rw [hV, ← hmem3]
              exact ids_Lives W' b m al3 la3 M x ((hB3.ch0 hd3).ch0 hc) ix
            have hrl : ∀ W', Ch No w3.drew W' → Calls Try.prog 22 #[.agg #[.slice q3 al3.length c3, .int .i64 la3, .int .i64 M], .int .i64 x] W' fun e w' => e = .returned (.bool V) ∧ Ch No W' w' := fun W' hc => by
              rw [hV]
              have := ref04_Lives (fun k => k = X ∨ k = b ∨ k = m) W' q3 c3 (aKeys al3) la3 M x ((hq3.ch0 hd3).ch0 hc) ix (by omega)
              rw [hk3l] at this
              exact this
            have hXd := hd3.heap hX3 (fun q => q)
            have K20 : ∀ W', Ch No w3.drew W' → (fun w' : World => (w'.cell? ⟨X, 0, none⟩ = some (.slice q3 al3.length c3) ∧ w'.cell? ⟨X, 1, none⟩ = some (.int .i64 la3) ∧ w'.cell? ⟨X, 2, none⟩ = some (.int .i64 M)) ∧ Ch No w3.drew w') W' := fun W' hc => ⟨⟨hc.cell (cellOf hXd 0 rfl) (fun q => q), hc.cell (cellOf hXd 1 rfl) (fun q => q), hc.cell (cellOf hXd 2 rfl) (fun q => q)⟩, hc⟩
            have HR3 := Lib.hid hr3; have HB3 := Lib.hid hb3
            clear hV hmem3 hso3 hI3 hk3l hr3
            try go_wp2_with fail
            refine wp_region_held_drew (S := (fun w' : World => (w'.cell? ⟨X, 0, none⟩ = some (.slice q3 al3.length c3) ∧ w'.cell? ⟨X, 1, none⟩ = some (.int .i64 la3) ∧ w'.cell? ⟨X, 2, none⟩ = some (.int .i64 M)) ∧ Ch No w3.drew w')) (by kernel_rfl) (K20 _ (Ch.refl _ _)) (fun hHeld => ?_)
            refine wpAnyH_take (i := 0) (v := ?_) (by simp only [List.getElem?_toArray, List.getElem?_cons_zero, List.getElem?_cons_succ]; exact rfl) (by kernel_rfl) (by kernel_rfl) (by kernel_rfl) (by intro _ _ _ h; exact h) (Or.inl ⟨by rfl, ?_⟩) (by assumption) ?_
            rotate_left
            · intro w hSw
              (try dsimp only at hSw)
              go_simp
              try (with_reducible rfl)
            try simp only [Act.put, List.setIfInBounds_toArray, List.set_cons_zero, List.set_cons_succ]
            refine wpAnyH_take (i := 2) (v := ?_) (by simp only [List.getElem?_toArray, List.getElem?_cons_zero, List.getElem?_cons_succ]; exact rfl) (by kernel_rfl) (by kernel_rfl) (by kernel_rfl) (by intro _ _ _ h; exact h) (Or.inl ⟨by rfl, ?_⟩) (by assumption) ?_
            rotate_left
            · intro w hSw
              (try dsimp only at hSw)
              go_simp
              try (with_reducible rfl)
            try simp only [Act.put, List.setIfInBounds_toArray, List.set_cons_zero, List.set_cons_succ]
            refine wpAnyH_take (i := 3) (v := ?_) (by simp only [List.getElem?_toArray, List.getElem?_cons_zero, List.getElem?_cons_succ]; exact rfl) (by kernel_rfl) (by kernel_rfl) (by kernel_rfl) (by intro _ _ _ h; exact h) (Or.inl ⟨by rfl, ?_⟩) (by assumption) ?_
            rotate_left
            · intro w hSw
              (try dsimp only at hSw)
              go_simp
              try (with_reducible rfl)
            try simp only [Act.put, List.setIfInBounds_toArray, List.set_cons_zero, List.set_cons_succ]
            refine wpAnyH_ready (rs := [1]) (by kernel_rfl) (by simp) ?_
            refine AllReadyH.cons (by simp only [List.getElem?_toArray, List.getElem?_cons_zero, List.getElem?_cons_succ]; exact rfl) (fun K hK => ?_) AllReadyH.nil
            go_simp
            (go_at_call 19; (with_reducible refine (hall _ (And.right (by assumption))).mono ?_); rintro e w9 ⟨qn, cn, rfl, hsn, hc9⟩; have hS9 := K20 _ (Ch.trans (And.right (by assumption)) hc9); (try dsimp only))
            try go_wp2_with fail
            refine hK.out _ _ ?_ (fun hHeld => ?_)
            · try dsimp only
              first | assumption | exact (by assumption) | fail
            clear hK K
            try simp only [Act.put, List.setIfInBounds_toArray, List.set_cons_zero, List.set_cons_succ]
            refine wpAnyH_ready (rs := [4]) (by kernel_rfl) (by simp) ?_
            refine AllReadyH.cons (by simp only [List.getElem?_toArray, List.getElem?_cons_zero, List.getElem?_cons_succ]; exact rfl) (fun K hK => ?_) AllReadyH.nil
            go_simp
            (go_at_call 18; (with_reducible refine (hsm _ (And.right (by assumption)) qn cn hsn).mono ?_); rintro e w9 ⟨rfl, hc9⟩; have hS9 := K20 _ (Ch.trans (And.right (by assumption)) hc9); (try dsimp only))
            try go_wp2_with fail
            refine hK.out _ _ ?_ (fun hHeld => ?_)
            · try dsimp only
              first | assumption | exact (by assumption) | fail
            clear hK K
            try simp only [Act.put, List.setIfInBounds_toArray, List.set_cons_zero, List.set_cons_succ]
            refine wpAnyH_take (i := 5) (v := ?_) (by simp only [List.getElem?_toArray, List.getElem?_cons_zero, List.getElem?_cons_succ]; exact rfl) (by kernel_rfl) (by kernel_rfl) (by kernel_rfl) (by intro _ _ _ h; exact h) (Or.inl ⟨by rfl, ?_⟩) (by assumption) ?_
            rotate_left
            · intro w hSw
              (try dsimp only at hSw)
              go_simp
              try (with_reducible rfl)
            try simp only [Act.put, List.setIfInBounds_toArray, List.set_cons_zero, List.set_cons_succ]
            refine wpAnyH_take (i := 6) (v := ?_) (by simp only [List.getElem?_toArray, List.getElem?_cons_zero, List.getElem?_cons_succ]; exact rfl) (by kernel_rfl) (by kernel_rfl) (by kernel_rfl) (by intro _ _ _ h; exact h) (Or.inl ⟨by rfl, ?_⟩) (by assumption) ?_
            rotate_left
            · intro w hSw
              (try dsimp only at hSw)
              go_simp
              try (with_reducible rfl)
            try simp only [Act.put, List.setIfInBounds_toArray, List.set_cons_zero, List.set_cons_succ]
            refine wpAnyH_take (i := 7) (v := ?_) (by simp only [List.getElem?_toArray, List.getElem?_cons_zero, List.getElem?_cons_succ]; exact rfl) (by kernel_rfl) (by kernel_rfl) (by kernel_rfl) (by intro _ _ _ h; exact h) (Or.inl ⟨by rfl, ?_⟩) (by assumption) ?_
            rotate_left
            · intro w hSw
              (try dsimp only at hSw)
              go_simp
              try (with_reducible rfl)
            try simp only [Act.put, List.setIfInBounds_toArray, List.set_cons_zero, List.set_cons_succ]
            refine wpAnyH_take (i := 9) (v := ?_) (by simp only [List.getElem?_toArray, List.getElem?_cons_zero, List.getElem?_cons_succ]; exact rfl) (by kernel_rfl) (by kernel_rfl) (by kernel_rfl) (by intro _ _ _ h; exact h) (Or.inl ⟨by rfl, ?_⟩) (by assumption) ?_
            rotate_left
            · intro w hSw
              (try dsimp only at hSw)
              go_simp
              try (with_reducible rfl)
            try simp only [Act.put, List.setIfInBounds_toArray, List.set_cons_zero, List.set_cons_succ]
            refine wpAnyH_take (i := 10) (v := ?_) (by simp only [List.getElem?_toArray, List.getElem?_cons_zero, List.getElem?_cons_succ]; exact rfl) (by kernel_rfl) (by kernel_rfl) (by kernel_rfl) (by intro _ _ _ h; exact h) (Or.inl ⟨by rfl, ?_⟩) (by assumption) ?_
            rotate_left
            · intro w hSw
              (try dsimp only at hSw)
              go_simp
              try (with_reducible rfl)
            try simp only [Act.put, List.setIfInBounds_toArray, List.set_cons_zero, List.set_cons_succ]
            refine wpAnyH_ready (rs := [8]) (by kernel_rfl) (by simp) ?_
            refine AllReadyH.cons (by simp only [List.getElem?_toArray, List.getElem?_cons_zero, List.getElem?_cons_succ]; exact rfl) (fun K hK => ?_) AllReadyH.nil
            go_simp
            (go_at_call 20; (with_reducible refine (hlast _ (And.right (by assumption))).mono ?_); rintro e w9 ⟨rfl, rfl⟩; (try dsimp only))
            try go_wp2_with fail
            refine hK.out _ _ ?_ (fun hHeld => ?_)
            · try dsimp only
              first | assumption | exact (by assumption) | fail
            clear hK K
            try simp only [Act.put, List.setIfInBounds_toArray, List.set_cons_zero, List.set_cons_succ]
            refine wpAnyH_take (i := 11) (v := ?_) (by simp only [List.getElem?_toArray, List.getElem?_cons_zero, List.getElem?_cons_succ]; exact rfl) (by kernel_rfl) (by kernel_rfl) (by kernel_rfl) (by intro _ _ _ h; exact h) (Or.inl ⟨by rfl, ?_⟩) (by assumption) ?_
            rotate_left
            · intro w hSw
              (try dsimp only at hSw)
              go_simp
              try (with_reducible rfl)
            try simp only [Act.put, List.setIfInBounds_toArray, List.set_cons_zero, List.set_cons_succ]
            refine wpAnyH_take (i := 12) (v := ?_) (by simp only [List.getElem?_toArray, List.getElem?_cons_zero, List.getElem?_cons_succ]; exact rfl) (by kernel_rfl) (by kernel_rfl) (by kernel_rfl) (by intro _ _ _ h; exact h) (Or.inl ⟨by rfl, ?_⟩) (by assumption) ?_
            rotate_left
            · intro w hSw
              (try dsimp only at hSw)
              go_simp
              try (with_reducible rfl)
            try simp only [Act.put, List.setIfInBounds_toArray, List.set_cons_zero, List.set_cons_succ]
            refine wpAnyH_take (i := 13) (v := ?_) (by simp only [List.getElem?_toArray, List.getElem?_cons_zero, List.getElem?_cons_succ]; exact rfl) (by kernel_rfl) (by kernel_rfl) (by kernel_rfl) (by intro _ _ _ h; exact h) (Or.inl ⟨by rfl, ?_⟩) (by assumption) ?_
            rotate_left
            · intro w hSw
              (try dsimp only at hSw)
              go_simp
              try (with_reducible rfl)
            try simp only [Act.put, List.setIfInBounds_toArray, List.set_cons_zero, List.set_cons_succ]
            refine wpAnyH_take (i := 14) (v := ?_) (by simp only [List.getElem?_toArray, List.getElem?_cons_zero, List.getElem?_cons_succ]; exact rfl) (by kernel_rfl) (by kernel_rfl) (by kernel_rfl) (by intro _ _ _ h; exact h) (Or.inl ⟨by rfl, ?_⟩) (by assumption) ?_
            rotate_left
            · intro w hSw
              (try dsimp only at hSw)
              go_simp
              try (with_reducible rfl)
            try simp only [Act.put, List.setIfInBounds_toArray, List.set_cons_zero, List.set_cons_succ]
            refine wpAnyH_take (i := 15) (v := ?_) (by simp only [List.getElem?_toArray, List.getElem?_cons_zero, List.getElem?_cons_succ]; exact rfl) (by kernel_rfl) (by kernel_rfl) (by kernel_rfl) (by intro _ _ _ h; exact h) (Or.inl ⟨by rfl, ?_⟩) (by assumption) ?_
            rotate_left
            · intro w hSw
              (try dsimp only at hSw)
              go_simp
              try (with_reducible rfl)
            try simp only [Act.put, List.setIfInBounds_toArray, List.set_cons_zero, List.set_cons_succ]
            refine wpAnyH_take (i := 17) (v := ?_) (by simp only [List.getElem?_toArray, List.getElem?_cons_zero, List.getElem?_cons_succ]; exact rfl) (by kernel_rfl) (by kernel_rfl) (by kernel_rfl) (by intro _ _ _ h; exact h) (Or.inl ⟨by rfl, ?_⟩) (by assumption) ?_
            rotate_left
            · intro w hSw
              (try dsimp only at hSw)
              go_simp
              try (with_reducible rfl)
            try simp only [Act.put, List.setIfInBounds_toArray, List.set_cons_zero, List.set_cons_succ]
            refine wpAnyH_take (i := 18) (v := ?_) (by simp only [List.getElem?_toArray, List.getElem?_cons_zero, List.getElem?_cons_succ]; exact rfl) (by kernel_rfl) (by kernel_rfl) (by kernel_rfl) (by intro _ _ _ h; exact h) (Or.inl ⟨by rfl, ?_⟩) (by assumption) ?_
            rotate_left
            · intro w hSw
              (try dsimp only at hSw)
              go_simp
              try (with_reducible rfl)
            try simp only [Act.put, List.setIfInBounds_toArray, List.set_cons_zero, List.set_cons_succ]
            refine wpAnyH_ready (rs := [16]) (by kernel_rfl) (by simp) ?_
            refine AllReadyH.cons (by simp only [List.getElem?_toArray, List.getElem?_cons_zero, List.getElem?_cons_succ]; exact rfl) (fun K hK => ?_) AllReadyH.nil
            go_simp
            (go_at_call 21; (with_reducible refine (hlv _ (And.right (by assumption))).mono ?_); rintro e w9 ⟨rfl, hc9⟩; have hS9 := K20 _ (Ch.trans (And.right (by assumption)) hc9); (try dsimp only))
            try go_wp2_with fail
            refine hK.out _ _ ?_ (fun hHeld => ?_)
            · try dsimp only
              first | assumption | exact (by assumption) | fail
            clear hK K
            try simp only [Act.put, List.setIfInBounds_toArray, List.set_cons_zero, List.set_cons_succ]
            refine wpAnyH_ready (rs := [19]) (by kernel_rfl) (by simp) ?_
            refine AllReadyH.cons (by simp only [List.getElem?_toArray, List.getElem?_cons_zero, List.getElem?_cons_succ]; exact rfl) (fun K hK => ?_) AllReadyH.nil
            go_simp
            (go_at_call 22; (with_reducible refine (hrl _ (And.right (by assumption))).mono ?_); rintro e w9 ⟨rfl, hc9⟩; have hS9 := K20 _ (Ch.trans (And.right (by assumption)) hc9); (try dsimp only))
            try go_wp2_with fail
            refine hK.out _ _ ?_ (fun hHeld => ?_)
            · try dsimp only
              first | assumption | exact (by assumption) | fail
            clear hK K
            try simp only [Act.put, List.setIfInBounds_toArray, List.set_cons_zero, List.set_cons_succ]
            refine wpAnyH_take (i := 20) (v := ?_) (by simp only [List.getElem?_toArray, List.getElem?_cons_zero, List.getElem?_cons_succ]; exact rfl) (by kernel_rfl) (by kernel_rfl) (by kernel_rfl) (by intro _ _ _ h; exact h) (Or.inl ⟨by rfl, ?_⟩) (by assumption) ?_
            rotate_left
            · intro w hSw
              (try dsimp only at hSw)
              go_simp
              try (with_reducible rfl)
            try simp only [Act.put, List.setIfInBounds_toArray, List.set_cons_zero, List.set_cons_succ]
            refine wpAnyH_take (i := 21) (v := ?_) (by simp only [List.getElem?_toArray, List.getElem?_cons_zero, List.getElem?_cons_succ]; exact rfl) (by kernel_rfl) (by kernel_rfl) (by kernel_rfl) (by intro _ _ _ h; exact h) (Or.inl ⟨by rfl, ?_⟩) (by assumption) ?_
            rotate_left
            · intro w hSw
              (try dsimp only at hSw)
              go_simp
              try (with_reducible rfl)
            try simp only [Act.put, List.setIfInBounds_toArray, List.set_cons_zero, List.set_cons_succ]
            refine wpAnyH_done (by kernel_rfl) ?_ _
            have hcF : Ch No w3 _ := hd3.trans hS9.2
            try go_wp2_with fail
            go_roundw
            case rel => exact ⟨i + 1, al3, la3, q3, c3, by omega, by go_num, hB3.ch0 hcF, hcF.heap hX3 (fun q => q), hq3.ch0 hcF, HR3.out, HB3.out, by omega, by omega, hC3.then0 hcF⟩
            case measure => exact meas_lt (by omega)
      · obtain rfl : i = l.length := by omega
        go_wp2_with fail
        with_reducible refine (fixed04 wr).mono ?_
        rintro e w4 ⟨rfl, hc4⟩
        dsimp only
        go_wp2_with fail
        go_ret
        exact ⟨rfl, ((Ch.refl No w).andThen hC (fun k e => .inr e)).trans hc4⟩
end Go.Proofs.Ytinjbonodlkafaa

/- Layer 9's laws: the example, and StartsBefore. -/
import Derived.Test.YtpldogmamifdpaaStarts4
set_option linter.unusedVariables false
set_option linter.unusedSimpArgs false
namespace Go.Proofs.Ytpldogmamifdpaa
open Go Go.RowKit

theorem IsLast.uniq {x : List Bool} {f : Int} : ∀ {r r' : Option Nat}, IsLast x f r → IsLast x f r' → r = r'
  | none, none, _, _ => rfl
  | some j, none, h, h' => by
    have := h' j h.1 h.2.1
    rw [h.2.2.1] at this
    cases this
  | none, some j, h', h => by
    have := h' j h.1 h.2.1
    rw [h.2.2.1] at this
    cases this
  | some j, some j', h, h' => by
    rcases Nat.lt_trichotomy j j' with q | q | q
    · have := h.2.2.2 j' q h'.2.1
      rw [h'.2.2.1] at this
      cases this
    · rw [q]
    · have := h'.2.2.2 j q h.2.1
      rw [h.2.2.1] at this
      cases this

set_option maxRecDepth 100000 in
set_option maxHeartbeats 1000000 in
theorem fixed09 (w : World) : Calls Try.prog 18 #[] w fun e w' => e = .returned (.bool true) ∧ Ch No w w' := by
  go_enter Try.func18, Try.ntmps18
  go_wp2_with fail
  refine (starts_New w 10 (show _ ∧ _ from by omega)).mono ?_
  rintro e w1 ⟨s, p, g, rfl, h1, hs, hp, hg, hc1⟩
  rw [show List.replicate (capW 10) false = [false, false, false, false, false, false, false, false, false, false] from by decide] at h1
  have hp3 := fun W h => starts_Put W s p g [false, false, false, false, false, false, false, false, false, false] 3 h (show _ ∧ _ from by omega)
  rw [show putE9 [false, false, false, false, false, false, false, false, false, false] 3 = 0 from by decide, show putL9 [false, false, false, false, false, false, false, false, false, false] 3 = [false, false, false, true, false, false, false, false, false, false] from by decide] at hp3
  have hp7 := fun W h => starts_Put W s p g [false, false, false, true, false, false, false, false, false, false] 7 h (show _ ∧ _ from by omega)
  rw [show putE9 [false, false, false, true, false, false, false, false, false, false] 7 = 0 from by decide, show putL9 [false, false, false, true, false, false, false, false, false, false] 7 = [false, false, false, true, false, false, false, true, false, false] from by decide] at hp7
  dsimp only
  go_wp2_with fail
  with_reducible refine (hp3 _ h1).mono ?_
  rintro e w2 ⟨rfl, h2, hc2⟩
  dsimp only
  go_wp2_with fail
  with_reducible refine (hp7 _ h2).mono ?_
  rintro e w3 ⟨rfl, h3, hc3⟩
  have hbf := starts_Before w3 s p g _ 6 h3 (show _ ∧ _ from by omega)
  have hi0 := starts_Is w3 s p g _ 0 h3 (show _ ∧ _ from by omega)
  have hi7 := starts_Is w3 s p g _ 7 h3 (show _ ∧ _ from by omega)
  rw [show getB [false, false, false, true, false, false, false, true, false, false] 0 = false from by decide] at hi0
  rw [show getB [false, false, false, true, false, false, false, true, false, false] 7 = true from by decide] at hi7
  dsimp only
  go_wp2_with fail
  with_reducible refine hbf.mono ?_
  rintro e w4 ⟨r, rfl, hr, rfl⟩
  obtain rfl := hr.uniq (r' := some 3) ⟨by decide, by decide, rfl, fun i h1 h2 => by
    have : i = 4 ∨ i = 5 ∨ i = 6 := by omega
    rcases this with rfl | rfl | rfl <;> rfl⟩
  rw [show optV (some 3) = .tuple #[.int .i64 3, .bool true] from rfl]
  dsimp only
  go_wp2_with fail
  with_reducible refine hi0.mono ?_
  rintro e w4 ⟨rfl, rfl⟩
  dsimp only
  go_wp2_with fail
  with_reducible refine hi7.mono ?_
  rintro e w4 ⟨rfl, rfl⟩
  dsimp only
  go_wp2_with fail
  go_ret
  exact ⟨rfl, (hc1.andThen hc2 (fun q hq => .inr (by have : q = g := hq; omega))).andThen hc3 (fun q hq => .inr (by have : q = g := hq; omega))⟩

theorem inL_cleared (x : List Bool) (a b : Int) : inL (clearAll x (inL x a b)) a b = [] := by
  refine List.eq_nil_iff_forall_not_mem.2 fun i hi => ?_
  have h1 := mem_inL.1 hi
  rw [clearAll_get, clearAll_length] at h1
  by_cases h2 : i ∈ inL x a b
  · rw [if_pos h2] at h1; exact absurd h1.2.1 (by simp)
  · rw [if_neg h2] at h1; exact h2 (mem_inL.2 h1)
theorem clear0 (x : List Bool) (l : List Nat) (h : x.getD 0 false = false) : (clearAll x l).getD 0 false = false := by
  rw [clearAll_get]; split
  · rfl
  · exact h
theorem put0 (x : List Bool) (i : Int) (h : x.getD 0 false = false) : (putL9 x i).getD 0 false = false := by
  unfold putL9
  split
  · exact h
  · rename_i hn
    rw [getD_set _ _ _ _ (by omega), if_neg (by omega)]
    exact h
/-- A Put at a number from 0 on answers 'busy' just where one begins. -/
theorem put_busy (x : List Bool) (i : Int) (h0 : x.getD 0 false = false) : (putE9 x i == 6) = (decide (0 ≤ i) && getB x i) := by
  unfold putE9
  by_cases h1 : i < 1 ∨ (x.length : Int) ≤ i
  · rw [if_pos h1]
    have : (decide (0 ≤ i) && getB x i) = false := by
      rcases h1 with h1 | h1
      · by_cases hi : 0 ≤ i
        · obtain rfl : i = 0 := by omega
          have : getB x 0 = x.getD 0 false := getB_nat x 0
          rw [this, h0]; rfl
        · rw [decide_eq_false hi]; rfl
      · unfold getB
        rw [decide_eq_false (p := 0 ≤ i ∧ i < (x.length : Int)) (by omega)]
        simp
    rw [this]; rfl
  · rw [if_neg h1, decide_eq_true (by omega)]
    cases getB x i <;> rfl
theorem put_there (x : List Bool) (i : Int) (h : putE9 x i = 0) : getB (putL9 x i) i = true ∧ 0 ≤ i := by
  unfold putE9 at h
  unfold putL9
  by_cases h1 : i < 1 ∨ (x.length : Int) ≤ i
  · rw [if_pos h1] at h; omega
  · rw [if_neg h1]
    obtain ⟨k, rfl⟩ : ∃ k : Nat, i = k := ⟨i.toNat, by omega⟩
    rw [getB_nat, Int.toNat_natCast, getD_set _ _ _ _ (by omega), if_pos rfl]
    exact ⟨rfl, by omega⟩
theorem putE9_cases (x : List Bool) (i : Int) : putE9 x i = 8 ∨ putE9 x i = 6 ∨ putE9 x i = 0 := by
  unfold putE9
  split
  · exact .inl rfl
  · split
    · exact .inr (.inl rfl)
    · exact .inr (.inr rfl)

set_option maxRecDepth 100000 in
set_option maxHeartbeats 4000000 in
theorem before09 (w : World) (n : Int) (a : Option Addr) (c : Nat) (l : List BAct) (at9 : Int) (h : SlR bactRp No w a c l) (hn : 0 ≤ n ∧ n ≤ 65535) (hat : I64 at9) (hl : l.length ≤ 9223372036854775807) :
    Calls Try.prog 4 #[.int .u16 n, .slice a l.length c, .int .i64 at9] w fun e w' => e = .returned (.bool true) ∧ Ch No w w' := by
  by_cases hcut : 60 < l.length
  · have b3 : decide ((l.length : Int) > 60) = true := decide_eq_true (by omega)
    go_enter Try.func4, Try.ntmps4
    go_wp2_with fail
    with_reducible refine (fixed09 _).mono ?_
    rintro e w1 ⟨rfl, hc⟩
    dsimp only
    go_wp2_with fail
    go_ret
    exact ⟨rfl, hc⟩
  · have b3 : decide ((l.length : Int) > 60) = false := decide_eq_false (by omega)
    have hl60 : l.length ≤ 60 := by omega
    clear hcut hl
    obtain ⟨M, hM⟩ : ∃ M, M = n % 300 := ⟨_, rfl⟩
    have hM0 : 0 ≤ M ∧ M < 300 := by omega
    have e1 : IntKind.i64.wrap n = n := IntWalk.i64_in _ (by omega)
    have e2 : n.tmod 300 = M := by rw [hM]; exact Int.tmod_eq_emod_of_nonneg hn.1
    have e3 : IntKind.i64.wrap M = M := IntWalk.i64_in _ (by omega)
    obtain ⟨N, hN⟩ : ∃ N : Nat, N = M.toNat := ⟨_, rfl⟩
    have hMN : M = N := by omega
    have hN3 : N < 300 := by omega
    clear hM
    subst hMN
    clear hN hM0
    have hnew := starts_New w (N : Int) (show _ ∧ _ from by omega)
    rw [show capW (N : Int) = N by unfold capW; omega] at hnew
    go_enter Try.func4, Try.ntmps4
    go_wp2_with fail
    with_reducible refine hnew.mono ?_
    rintro e w1 ⟨s, p, g, rfl, h1, hs, hp, hg, hc1⟩
    obtain ⟨x0, hx0⟩ : ∃ z, z = List.replicate N false := ⟨_, rfl⟩
    have hxl : x0.length = N := by rw [hx0, List.length_replicate]
    have hx00 : x0.getD 0 false = false := by rw [hx0]; simp [List.getD_eq_getElem?_getD, List.getElem?_replicate]; split <;> rfl
    rw [← hx0] at h1
    clear hx0 hnew
    dsimp only
    go_wp2_with fail
    go_loopw [30] (fun i wr => ∃ (k : Nat) (x : List Bool), k ≤ l.length ∧ i = .int .i64 k ∧ x.length = N ∧ x.getD 0 false = false ∧ StartsAt wr s p g x ∧ Ch No w wr) (fun i _ => l.length - (intOf i).toNat)
    case atStart => exact ⟨0, x0, by omega, rfl, hxl, hx00, h1, hc1⟩
    case round =>
      obtain ⟨k, x, hk, rfl, hx, hx0, hr, hc⟩ := hrel
      clear h1 hc1 hxl hx00
      by_cases hlt : k < l.length
      · obtain ⟨b, off, rfl, _, d0, d1, d2, ia, ib⟩ := (h.ch0 hc).bact_at k hlt
        obtain ⟨A, hA⟩ : ∃ A, A = l[k] := ⟨_, rfl⟩
        rw [← hA] at d0 d1 d2 ia ib
        clear hA h
        obtain ⟨a1, b1, on⟩ := A
        dsimp only at d0 d1 d2 ia ib
        have hal : Ch No wr (wr.alloc (.cells #[.int .i64 a1, .int .i64 b1, .bool on] 43)) := (Ch.refl _ _).alloc _
        have hr1 := hr.ch0 hal
        cases on with
        | true =>
          go_wp2_with fail
          refine (starts_In _ s p g x a1 b1 hr1 ia ib).mono ?_
          rintro e w2 ⟨v2, rfl, ho2, hc2⟩
          have hr2 := hr1.ch0 hc2
          obtain ⟨A2, C2, rfl, _⟩ := ho2.sl (fun _ q => q.elim)
          have hacell : ∀ W, Ch No (wr.alloc (.cells #[.int .i64 a1, .int .i64 b1, .bool true] 43)) W → W.cell? ⟨wr.heap.size, 0, none⟩ = some (.int .i64 a1) ∧ W.cell? ⟨wr.heap.size, 1, none⟩ = some (.int .i64 b1) := fun W hW => ⟨hW.cell (cellOf (World.alloc_heap_new wr _) 0 rfl) (fun q => q), hW.cell (cellOf (World.alloc_heap_new wr _) 1 rfl) (fun q => q)⟩
          have c2 := hacell _ hc2
          have hL : ((inL x a1 b1).map fun i : Nat => (i : Int)).length = (inL x a1 b1).length := by simp
          rw [hL]
          obtain ⟨L, hL2⟩ : ∃ z, z = (inL x a1 b1).length := ⟨_, rfl⟩
          have hd := starts_Drop w2 s p g x a1 b1 hr2 ia ib
          rw [← hL2] at hd ⊢
          have HL := Lib.hid hL2
          clear hL hL2 ho2
          dsimp only
          go_wp2_with fail
          with_reducible refine hd.mono ?_
          rintro e w3 ⟨rfl, hr3, hc3⟩
          have hgl := hr.row.lt
          have c3 : w3.cell? ⟨wr.heap.size, 0, none⟩ = some (.int .i64 a1) ∧ w3.cell? ⟨wr.heap.size, 1, none⟩ = some (.int .i64 b1) := ⟨hc3.cell c2.1 (fun q => by have : wr.heap.size = g := q; omega), hc3.cell c2.2 (fun q => by have : wr.heap.size = g := q; omega)⟩
          have hin := starts_In w3 s p g _ a1 b1 hr3 ia ib
          rw [inL_cleared] at hin
          have hcl := clearAll_length (inL x a1 b1) x
          have hx1 := clear0 x (inL x a1 b1) hx0
          obtain ⟨x', hx'⟩ : ∃ z, z = clearAll x (inL x a1 b1) := ⟨_, rfl⟩
          rw [← hx'] at hr3 hcl hx1
          rw [hx] at hcl
          clear hx' hd c2
          dsimp only
          go_wp2_with fail
          with_reducible refine hin.mono ?_
          rintro e w4 ⟨v4, rfl, ho4, hc4⟩
          obtain ⟨A4, C4, rfl, _⟩ := ho4.sl (fun _ q => q.elim)
          have hr4 := hr3.ch0 hc4
          clear ho4
          dsimp only [List.map_nil, List.length_nil]
          go_wp2_with fail
          go_roundw
          case rel => exact ⟨k + 1, x', by omega, by go_num, hcl, hx1, hr4, (((hc.trans hal).trans hc2).andThen hc3 (fun q hq => .inr (by have : q = g := hq; omega))).trans hc4⟩
          case measure => exact meas_lt (by omega)
        | false =>
          have hnon := putE9_cases x a1
          have hbusy := put_busy x a1 hx0
          have hthere := put_there x a1
          have hpl := putL9_length x a1
          have hp0 := put0 x a1 hx0
          have hput := fun W hW => starts_Put W s p g x a1 hW ia
          obtain ⟨E, hE⟩ : ∃ z, z = putE9 x a1 := ⟨_, rfl⟩
          obtain ⟨x', hx'⟩ : ∃ z, z = putL9 x a1 := ⟨_, rfl⟩
          rw [hx] at hpl
          simp only [← hE, ← hx'] at hnon hbusy hthere hpl hp0 hput
          clear hE hx'
          have hgl := hr.row.lt
          have ia' := ia.bd
          have cells : ∀ W, Ch (One g) (wr.alloc (.cells #[.int .i64 a1, .int .i64 b1, .bool false] 43)) W → W.cell? ⟨wr.heap.size, 0, none⟩ = some (.int .i64 a1) := fun W hW => hW.cell (cellOf (World.alloc_heap_new wr _) 0 rfl) (fun q => by have : wr.heap.size = g := q; omega)
          have hput1 := hput _ hr1
          clear hput
          have fin : ∀ W, Ch (One g) (wr.alloc (.cells #[.int .i64 a1, .int .i64 b1, .bool false] 43)) W → Ch No w W := fun W hW => (hc.trans hal).andThen hW (fun q hq => .inr (by have : q = g := hq; omega))
          by_cases ha0 : 0 ≤ a1
          · have q1 : decide (a1 ≥ 0) = true := decide_eq_true ha0
            have C1 : IntKind.u64.wrap a1 = a1 := by rw [IntKind.wrap_u64]; omega
            have hIs1 := starts_Is _ s p g x a1 hr1 (show _ ∧ _ from by omega)
            have hIs2 := fun W hW => starts_Is W s p g x' a1 hW (show _ ∧ _ from by omega)
            rw [decide_eq_true ha0, Bool.true_and] at hbusy
            rcases hnon with rfl | rfl | rfl
            · rw [show getB x a1 = false from hbusy.symm] at hIs1
              clear hbusy hthere
              go_wp2_with fail
              with_reducible refine hIs1.mono ?_
              rintro e w2 ⟨rfl, rfl⟩
              dsimp only
              go_wp2_with fail
              with_reducible refine hput1.mono ?_
              rintro e w3 ⟨rfl, hr3, hc3⟩
              have c3 := cells _ hc3
              dsimp only
              go_wp2_with fail
              go_roundw
              case rel => exact ⟨k + 1, x', by omega, by go_num, hpl, hp0, hr3, fin _ hc3⟩
              case measure => exact meas_lt (by omega)
            · rw [show getB x a1 = true from hbusy.symm] at hIs1
              clear hbusy hthere
              go_wp2_with fail
              with_reducible refine hIs1.mono ?_
              rintro e w2 ⟨rfl, rfl⟩
              dsimp only
              go_wp2_with fail
              with_reducible refine hput1.mono ?_
              rintro e w3 ⟨rfl, hr3, hc3⟩
              have c3 := cells _ hc3
              dsimp only
              go_wp2_with fail
              go_roundw
              case rel => exact ⟨k + 1, x', by omega, by go_num, hpl, hp0, hr3, fin _ hc3⟩
              case measure => exact meas_lt (by omega)
            · rw [show getB x a1 = false from hbusy.symm] at hIs1
              have hth := (hthere rfl).1
              rw [hth] at hIs2
              clear hbusy hthere hth
              go_wp2_with fail
              with_reducible refine hIs1.mono ?_
              rintro e w2 ⟨rfl, rfl⟩
              dsimp only
              go_wp2_with fail
              with_reducible refine hput1.mono ?_
              rintro e w3 ⟨rfl, hr3, hc3⟩
              have c3 := cells _ hc3
              dsimp only
              go_wp2_with fail
              with_reducible refine (hIs2 _ hr3).mono ?_
              rintro e w4 ⟨rfl, rfl⟩
              dsimp only
              go_wp2_with fail
              go_roundw
              case rel => exact ⟨k + 1, x', by omega, by go_num, hpl, hp0, hr3, fin _ hc3⟩
              case measure => exact meas_lt (by omega)
          · have q1 : decide (a1 ≥ 0) = false := decide_eq_false ha0
            rw [decide_eq_false ha0, Bool.false_and] at hbusy
            have hE8 : E = 8 := by
              rcases hnon with h | h | h
              · exact h
              · rw [h] at hbusy; cases hbusy
              · exact absurd (hthere h).2 ha0
            subst hE8
            clear hnon hbusy hthere
            go_wp2_with fail
            with_reducible refine hput1.mono ?_
            rintro e w3 ⟨rfl, hr3, hc3⟩
            have c3 := cells _ hc3
            dsimp only
            go_wp2_with fail
            go_roundw
            case rel => exact ⟨k + 1, x', by omega, by go_num, hpl, hp0, hr3, fin _ hc3⟩
            case measure => exact meas_lt (by omega)
      · obtain rfl : k = l.length := by omega
        clear h
        have hbf := starts_Before wr s p g x at9 hr hat
        have hat' := hat.bd
        have hxle := hr.row.le
        obtain ⟨M, hM⟩ : ∃ M, M = min at9 (N : Int) := ⟨_, rfl⟩
        have hM' : min at9 (N : Int) = M := hM.symm
        have hMr : M ≤ at9 ∧ M ≤ N := by omega
        have HM := Lib.hid hMr
        clear hMr
        clear hM
        go_wp2_with fail
        with_reducible refine hbf.mono ?_
        rintro e w2 ⟨r, rfl, hil, rfl⟩
        cases r with
        | none =>
          rw [show optV none = .tuple #[.int .i64 0, .bool false] from rfl]
          have hf0 : ∀ i : Nat, 1 ≤ i → (i : Int) ≤ at9 → x.getD i false = false := hil
          have HF := Lib.hid hf0
          clear hf0
          clear hil
          dsimp only
          go_wp2_with fail
          go_loopw [16] (fun v wq => wr = wq ∧ ∃ q : Nat, v = .int .i64 q ∧ 0 < q ∧ q ≤ N + 1 + 0) (fun v _ => N + 2 + 0 - (intOf v).toNat)
          case atStart => exact ⟨rfl, 0 + 1, rfl, by omega, by omega⟩
          case round =>
            obtain ⟨rfl, q, rfl, hq1, hq2⟩ := hrel
            by_cases hqM : (q : Int) ≤ M
            · have q1 : decide ((q : Int) ≤ M) = true := decide_eq_true hqM
              have hqN := HM.out
              have C2 : IntKind.u64.wrap (q : Int) = (q : Int) := by rw [IntKind.wrap_u64]; omega
              have hIs := starts_Is wr s p g x (q : Int) hr (show _ ∧ _ from by omega)
              rw [getB_nat, HF.out q (by omega) (by omega)] at hIs
              have C3 : IntKind.i64.wrap ((q : Int) + 1) = (q : Int) + 1 := IntWalk.i64_in _ (by omega)
              have HN := Lib.hid hqN
              clear hqN
              go_wp2_with fail
              with_reducible refine hIs.mono ?_
              rintro e w3 ⟨rfl, rfl⟩
              dsimp only
              go_wp2_with fail
              go_roundw
              case rel => exact ⟨trivial, q + 1, by go_num, by omega, by have := HN.out; omega⟩
              case measure => have := HN.out; simp [intOf]; omega
            · have q1 : decide ((q : Int) ≤ M) = false := decide_eq_false hqM
              go_wp2_with fail
              with_reducible refine (fixed09 _).mono ?_
              rintro e w3 ⟨rfl, hc3⟩
              dsimp only
              go_wp2_with fail
              go_ret
              exact ⟨rfl, hc.trans hc3⟩
        | some j =>
          rw [show optV (some j) = .tuple #[.int .i64 j, .bool true] from rfl]
          obtain ⟨j1, j2, j3, j4⟩ := hil
          have jl : j < x.length := by
            rcases Nat.lt_or_ge j x.length with h | h
            · exact h
            · rw [getD_out x j h] at j3; cases j3
          have q1 : decide ((j : Int) > at9) = false := decide_eq_false (by omega)
          have q2 : decide ((j : Int) < 1) = false := decide_eq_false (by omega)
          have C1 : IntKind.u64.wrap (j : Int) = (j : Int) := by rw [IntKind.wrap_u64]; omega
          have C4 : IntKind.i64.wrap ((j : Int) + 1) = (j : Int) + 1 := IntWalk.i64_in _ (by omega)
          have hIj := starts_Is wr s p g x (j : Int) hr (show _ ∧ _ from by omega)
          rw [getB_nat, j3] at hIj
          have hf0 : ∀ i : Nat, j + 1 ≤ i → (i : Int) ≤ at9 → x.getD i false = false := fun i h1 h2 => j4 i (by omega) h2
          have HF := Lib.hid hf0
          clear hf0
          clear j3 j4
          dsimp only
          go_wp2_with fail
          with_reducible refine hIj.mono ?_
          rintro e w3 ⟨rfl, rfl⟩
          dsimp only
          go_wp2_with fail
          go_loopw [16] (fun v wq => wr = wq ∧ ∃ q : Nat, v = .int .i64 q ∧ j < q ∧ q ≤ N + 1 + j) (fun v _ => N + 2 + j - (intOf v).toNat)
          case atStart => exact ⟨rfl, j + 1, by go_num, by omega, by omega⟩
          case round =>
            obtain ⟨rfl, q, rfl, hq1, hq2⟩ := hrel
            by_cases hqM : (q : Int) ≤ M
            · have q1 : decide ((q : Int) ≤ M) = true := decide_eq_true hqM
              have hqN := HM.out
              have C2 : IntKind.u64.wrap (q : Int) = (q : Int) := by rw [IntKind.wrap_u64]; omega
              have hIs := starts_Is wr s p g x (q : Int) hr (show _ ∧ _ from by omega)
              rw [getB_nat, HF.out q (by omega) (by omega)] at hIs
              have C3 : IntKind.i64.wrap ((q : Int) + 1) = (q : Int) + 1 := IntWalk.i64_in _ (by omega)
              have HN := Lib.hid hqN
              clear hqN
              go_wp2_with fail
              with_reducible refine hIs.mono ?_
              rintro e w3 ⟨rfl, rfl⟩
              dsimp only
              go_wp2_with fail
              go_roundw
              case rel => exact ⟨trivial, q + 1, by go_num, by omega, by have := HN.out; omega⟩
              case measure => have := HN.out; simp [intOf]; omega
            · have q1 : decide ((q : Int) ≤ M) = false := decide_eq_false hqM
              go_wp2_with fail
              with_reducible refine (fixed09 _).mono ?_
              rintro e w3 ⟨rfl, hc3⟩
              dsimp only
              go_wp2_with fail
              go_ret
              exact ⟨rfl, hc.trans hc3⟩
end Go.Proofs.Ytpldogmamifdpaa

/- The law BitsPlay: the walk. -/
import Derived.Test.YtpldogmamifdpaaRef02c
set_option linter.unusedVariables false
set_option linter.unusedSimpArgs false
namespace Go.Proofs.Ytpldogmamifdpaa
open Go Go.RowKit

def optN (r : Option Nat) : Nat := r.getD 0
theorem optV_eq (r : Option Nat) : optV r = .tuple #[.int .i64 (optN r), .bool r.isSome] := by cases r <;> rfl
/-- What Find answers, of whatever number. -/
def IsFindI (x : List Bool) (n : Int) (r : Option Nat) : Prop := if n < 1 then r = none else IsFind x n.toNat r
theorem IsFindI.uniq {x : List Bool} {n : Int} {r r' : Option Nat} (h : IsFindI x n r) (h' : IsFindI x n r') : r = r' := by
  unfold IsFindI at h h'
  by_cases h1 : n < 1
  · rw [if_pos h1] at h h'; rw [h, h']
  · rw [if_neg h1] at h h'; exact h.uniq h'
theorem bits_Find_all (w : World) (p g : Nat) (x : List Bool) (n : Int) (h : RowAt w p g x) (hn : I64 n) :
    Calls Try.prog 26 #[.pointer (some ⟨p, 0, none⟩), .int .i64 n] w fun e w' => ∃ r, e = .returned (optV r) ∧ IsFindI x n r ∧ w = w' := by
  unfold IsFindI
  have hn' := hn.bd
  by_cases h1 : n < 1
  · refine (bits_Find_no w p g x n h1).mono ?_
    rintro e w' ⟨rfl, rfl⟩
    exact ⟨none, rfl, by rw [if_pos h1], rfl⟩
  · have := bits_Find w p g x n.toNat h (by omega) (by omega)
    rw [show ((n.toNat : Nat) : Int) = n by omega] at this
    refine this.mono ?_
    rintro e w' ⟨r, rfl, hr, rfl⟩
    exact ⟨r, rfl, by rw [if_neg h1]; exact hr, rfl⟩
theorem ref02_Find_all (F : Nat → Prop) (w : World) (q : Option Addr) (c : Nat) (x : List Bool) (n : Int) (h : SlR boolRp F w q c x) (hx : x.length ≤ 100000) (hn : I64 n) :
    Calls Try.prog 30 #[.slice q x.length c, .int .i64 n] w fun e w' => ∃ r, e = .returned (optV r) ∧ IsFindI x n r ∧ Ch No w w' := by
  unfold IsFindI
  have hn' := hn.bd
  by_cases h1 : n < 1
  · refine (ref02_Find_no w q c x.length n h1).mono ?_
    rintro e w' ⟨rfl, hc⟩
    exact ⟨none, rfl, by rw [if_pos h1], hc⟩
  · have := ref02_Find F w q c x n.toNat h (by omega) (by omega) hx
    rw [show ((n.toNat : Nat) : Int) = n by omega] at this
    refine this.mono ?_
    rintro e w' ⟨r, rfl, hr, hc⟩
    exact ⟨r, rfl, by rw [if_neg h1]; exact hr, hc⟩

/-- What stands while the last region runs. -/
structure Held02 (w : World) (ra rb : Int) (p g : Nat) (x : List Bool) (q : Option Addr) (c : Nat) (w' : World) : Prop where
  row : RowAt w' p g x
  sl : SlR boolRp No w' q c x
  ch : Ch No (w.alloc (.cells #[.int .i64 ra, .int .i64 rb] 30)) w'
theorem Held02.ch0 {w : World} {ra rb : Int} {p g : Nat} {x : List Bool} {q : Option Addr} {c : Nat} {w' w'' : World} (h : Held02 w ra rb p g x q c w') (hc : Ch No w' w'') : Held02 w ra rb p g x q c w'' := ⟨h.row.ch0 hc, h.sl.ch0 hc, h.ch.trans hc⟩
theorem Held02.full {w : World} {ra rb : Int} {p g : Nat} {x : List Bool} {q : Option Addr} {c : Nat} {w' : World} (h : Held02 w ra rb p g x q c w') :
    (w'.cell? ⟨w.heap.size, 0, none⟩ = some (.int .i64 ra) ∧ w'.cell? ⟨w.heap.size, 1, none⟩ = some (.int .i64 rb)) ∧ Held02 w ra rb p g x q c w' :=
  ⟨⟨h.ch.cell (by simp) (fun q => q), h.ch.cell (by simp) (fun q => q)⟩, h⟩

set_option maxRecDepth 100000 in
set_option maxHeartbeats 8000000 in
theorem play02 (w : World) (n : Int) (a : Option Addr) (c : Nat) (l : List BAct) (ra rb : Int) (hra : I64 ra) (hrb : I64 rb) (h : SlR bactRp No w a c l) (hi : I64 n) (hl : l.length ≤ 9223372036854775807) :
    Calls Try.prog 7 #[.int .i64 n, .slice a l.length c, .agg #[.int .i64 ra, .int .i64 rb]] w fun e w' => e = .returned (.bool true) ∧ Ch No w w' := by
  have hi' := hi.bd
  have fin : ∀ w1 : World, Ch No (w.alloc (.cells #[.int .i64 ra, .int .i64 rb] 30)) w1 → Ch No w w1 := fun w1 hc => ((Ch.refl _ _).alloc _).trans hc
  by_cases hcut : (300 < n ∧ n ≤ 16384) ∨ 60 < l.length
  · by_cases h1 : 300 < n ∧ n ≤ 16384
    · have b1 : decide (n > 300) = true := decide_eq_true h1.1
      have b2 : decide (n ≤ 16384) = true := decide_eq_true h1.2
      go_enter Try.func7, Try.ntmps7
      go_wp2_with fail
      with_reducible refine (fixed02 _).mono ?_
      rintro e w1 ⟨rfl, hc⟩
      dsimp only
      go_wp2_with fail
      go_ret
      exact ⟨rfl, fin _ hc⟩
    · have b3 : decide ((l.length : Int) > 60) = true := decide_eq_true (by omega)
      by_cases h3 : 300 < n
      · have b1 : decide (n > 300) = true := decide_eq_true h3
        have b2 : decide (n ≤ 16384) = false := decide_eq_false (by omega)
        go_enter Try.func7, Try.ntmps7
        go_wp2_with fail
        with_reducible refine (fixed02 _).mono ?_
        rintro e w1 ⟨rfl, hc⟩
        dsimp only
        go_wp2_with fail
        go_ret
        exact ⟨rfl, fin _ hc⟩
      · have b1 : decide (n > 300) = false := decide_eq_false h3
        go_enter Try.func7, Try.ntmps7
        go_wp2_with fail
        with_reducible refine (fixed02 _).mono ?_
        rintro e w1 ⟨rfl, hc⟩
        dsimp only
        go_wp2_with fail
        go_ret
        exact ⟨rfl, fin _ hc⟩
  · have b3 : decide ((l.length : Int) > 60) = false := decide_eq_false (by omega)
    have hl60 : l.length ≤ 60 := by omega
    by_cases hbad : n < 0 ∨ 16384 < n
    · have key : (decide (n > 300) = true ∧ decide (n ≤ 16384) = false) ∨ decide (n > 300) = false := by
        by_cases h3 : 300 < n
        · exact .inl ⟨decide_eq_true h3, decide_eq_false (by omega)⟩
        · exact .inr (decide_eq_false h3)
      clear hcut
      rcases key with ⟨b1, b2⟩ | b1
      all_goals
        go_enter Try.func7, Try.ntmps7
        go_wp2_with fail
        with_reducible refine (bits_New_no _ n hbad).mono ?_
        rintro e w1 ⟨rfl, hc1⟩
        dsimp only
        go_wp2_with fail
        with_reducible refine (ref02_New_no w1 n hbad).mono ?_
        rintro e w2 ⟨v, rfl, hc2⟩
        dsimp only
        go_wp2_with fail
        with_reducible refine (fixed02 w2).mono ?_
        rintro e w3 ⟨rfl, hc3⟩
        dsimp only
        go_wp2_with fail
        go_ret
        exact ⟨rfl, fin _ ((hc1.trans hc2).trans hc3)⟩
    · obtain ⟨N, rfl⟩ : ∃ N : Nat, n = N := ⟨n.toNat, by omega⟩
      have hN : N ≤ 300 := by omega
      have b1 : decide ((N : Int) > 300) = false := decide_eq_false (by omega)
      clear hcut hbad hl
      go_enter Try.func7, Try.ntmps7
      go_wp2_with fail
      with_reducible refine (bits_New _ N (by omega)).mono ?_
      rintro e w1 ⟨p, g, rfl, h1, hp, hg, hc1⟩
      dsimp only
      go_wp2_with fail
      have hFg : ∀ k, One g k → k < w1.heap.size := fun k hk => by have : k = g := hk; have := h1.lt; omega
      with_reducible refine (ref02_New (One g) w1 N (by omega) hFg).mono ?_
      rintro e w2 ⟨v, rfl, hv, hc2⟩
      have h2 := h1.ch0 hc2
      obtain ⟨q2, c2, rfl, hs2⟩ := hv.sl hFg
      rw [List.length_replicate]
      obtain ⟨x0, hx0⟩ : ∃ z, z = List.replicate N false := ⟨_, rfl⟩
      have hxl : x0.length = N := by rw [hx0, List.length_replicate]
      rw [← hx0] at h2 hs2
      clear hx0 hv h1
      have hcw2 := hc1.trans hc2
      dsimp only
      go_wp2_with fail
      go_loopw [9, 62] (fun v i wr => ∃ (k : Nat) (x : List Bool) (q : Option Addr) (cx : Nat), k ≤ l.length ∧ i = .int .i64 k ∧ x.length = N ∧ v = .slice q N cx ∧ RowAt wr p g x ∧ SlR boolRp (One g) wr q cx x ∧ Ch No (w.alloc (.cells #[.int .i64 ra, .int .i64 rb] 30)) wr) (fun _ i _ => l.length - (intOf i).toNat)
      case atStart => exact ⟨0, x0, q2, c2, by omega, rfl, hxl, rfl, h2, hs2, hcw2⟩
      case round =>
        obtain ⟨k, x, q, cx, hk, rfl, hx, rfl, hr, hs, hc⟩ := hrel
        clear h2 hs2 hcw2 hxl
        by_cases hlt : k < l.length
        · obtain ⟨b, off, rfl, _, d0, d1, d2, ia, ib⟩ := ((h.ch0 ((Ch.refl _ _).alloc _)).ch0 hc).bact_at k hlt
          obtain ⟨A, hA⟩ : ∃ A, A = l[k] := ⟨_, rfl⟩
          rw [← hA] at d0 d1 d2 ia ib
          clear hA h
          have hal : Ch No wr (wr.alloc (.cells #[.int .i64 A.a, .int .i64 A.b, .bool A.on] 32)) := (Ch.refl _ _).alloc _
          have hgl := hr.lt
          have hng : ¬ One g wr.heap.size := fun e => by have : wr.heap.size = g := e; omega
          have hFw : ∀ w', Ch No wr w' → ∀ k, One g k → k < w'.heap.size := fun w' hw k hk => by have : k = g := hk; have := hw.size; omega
          go_wp2_with fail
          with_reducible refine (bits_Mark_all _ p g x A.a A.b A.on (hr.ch0 hal) ia ib).mono ?_
          rintro e w3 ⟨rfl, hr3, hc3⟩
          have e0 : w3.cell? ⟨wr.heap.size, 0, none⟩ = some (.int .i64 A.a) := hc3.cell (by simp) hng
          have e1 : w3.cell? ⟨wr.heap.size, 1, none⟩ = some (.int .i64 A.b) := hc3.cell (by simp) hng
          have e2 : w3.cell? ⟨wr.heap.size, 2, none⟩ = some (.bool A.on) := hc3.cell (by simp) hng
          have hs3 := (hs.ch0 hal).chF hc3
          have hcw3 : Ch No (w.alloc (.cells #[.int .i64 ra, .int .i64 rb] 30)) w3 := (hc.trans hal).andThen hc3 (fun q hq => .inr (by have : q = g := hq; omega))
          have hF3 : ∀ k, One g k → k < w3.heap.size := fun k hk => by have : k = g := hk; have := hr3.lt; omega
          have hmk := ref02_Mark_all (One g) w3 q cx x A.a A.b A.on hs3 ia ib (by omega) hF3
          rw [hx] at hmk
          dsimp only
          go_wp2_with fail
          with_reducible refine hmk.mono ?_
          rintro e w4 ⟨q4, c4, rfl, hs4, hc4⟩
          have hr4 := hr3.ch0 hc4
          have hml := markL_length x A.a A.b A.on
          rw [hx] at hml
          have hlen := bits_Len w4 p g _ hr4
          have hct := bits_Count w4 p g _ hr4
          have hct2 := ref02_Count (One g) w4 q4 c4 _ hs4 (by omega)
          rw [hml] at hlen hct hct2
          obtain ⟨x4, hx4⟩ : ∃ z, z = markL x A.a A.b A.on := ⟨_, rfl⟩
          rw [← hx4] at hr4 hs4 hct hct2 hml
          obtain ⟨T, hT⟩ : ∃ z, z = cntTo x4 N := ⟨_, rfl⟩
          rw [← hT] at hct hct2
          have hcw4 := hcw3.trans hc4
          obtain ⟨E, hE⟩ : ∃ z, z = markE x A.a A.b := ⟨_, rfl⟩
          rw [← hE]
          clear hx4 hT hE hmk hr3 hs3 hr hs
          dsimp only
          go_wp2_with fail
          with_reducible refine hlen.mono ?_
          rintro e w5 ⟨rfl, rfl⟩
          dsimp only
          go_wp2_with fail
          with_reducible refine hct.mono ?_
          rintro e w5 ⟨rfl, rfl⟩
          dsimp only
          go_wp2_with fail
          with_reducible refine hct2.mono ?_
          rintro e w5 ⟨rfl, rfl⟩
          dsimp only
          go_wp2_with fail
          go_roundw
          case rel => exact ⟨k + 1, x4, q4, c4, by omega, by go_num, hml, rfl, hr4, hs4, hcw4⟩
          case measure => exact meas_lt (by omega)
        · obtain rfl : k = l.length := by omega
          clear h
          go_wp2_with fail
          go_loopw [16] (fun i wq => ∃ j : Int, -1 ≤ j ∧ j ≤ (N : Int) + 1 ∧ i = .int .i64 j ∧ wr = wq) (fun i _ => ((N : Int) + 1 - intOf i).toNat)
          case atStart => exact ⟨-1, by omega, by omega, rfl, rfl⟩
          case round =>
            obtain ⟨j, hj1, hj2, rfl, rfl⟩ := hrel
            by_cases hjn : j ≤ N
            · have b5 : decide (j ≤ (N : Int)) = true := decide_eq_true hjn
              have W1 : IntKind.i64.wrap (j + 1) = j + 1 := IntWalk.i64_in _ (by omega)
              have hhas := bits_Has wr p g x j hr (show _ ∧ _ from by omega)
              by_cases hj0 : j < 0
              · have b6 : decide (j ≥ 0) = false := decide_eq_false (by omega)
                have hgb : getB x j = false := by unfold getB; rw [decide_eq_false (by omega)]; rfl
                rw [hgb] at hhas
                go_wp2_with fail
                with_reducible refine hhas.mono ?_
                rintro e w5 ⟨rfl, rfl⟩
                dsimp only
                go_wp2_with fail
                go_roundw
                case rel => exact ⟨j + 1, by omega, by omega, rfl, trivial⟩
                case measure =>
                  show ((N : Int) + 1 - (j + 1)).toNat < ((N : Int) + 1 - j).toNat
                  omega
              · have b6 : decide (j ≥ 0) = true := decide_eq_true (by omega)
                obtain ⟨m, rfl⟩ : ∃ m : Nat, j = m := ⟨j.toNat, by omega⟩
                rw [getB_nat] at hhas
                by_cases hmN : m < N
                · have b7 : decide ((m : Int) < (N : Int)) = true := decide_eq_true (by omega)
                  obtain ⟨b, off, rfl, _, _, g0⟩ := hs.bool_at m (by omega)
                  have hgd : x.getD m false = x[m]'(by omega) := by simp [List.getD_eq_getElem?_getD, show m < x.length by omega]
                  rw [← hgd] at g0
                  obtain ⟨vv, hvv⟩ : ∃ z, z = x.getD m false := ⟨_, rfl⟩
                  rw [← hvv] at g0 hhas
                  have hbb : (vv != vv) = false := by simp
                  clear hgd hvv
                  go_wp2_with fail
                  with_reducible refine hhas.mono ?_
                  rintro e w5 ⟨rfl, rfl⟩
                  dsimp only
                  go_wp2_with fail
                  go_roundw
                  case rel => exact ⟨(m : Int) + 1, by omega, by omega, rfl, trivial⟩
                  case measure =>
                    show ((N : Int) + 1 - ((m : Int) + 1)).toNat < ((N : Int) + 1 - (m : Int)).toNat
                    omega
                · have b7 : decide ((m : Int) < (N : Int)) = false := decide_eq_false (by omega)
                  rw [getD_out x m (by omega)] at hhas
                  go_wp2_with fail
                  with_reducible refine hhas.mono ?_
                  rintro e w5 ⟨rfl, rfl⟩
                  dsimp only
                  go_wp2_with fail
                  go_roundw
                  case rel => exact ⟨(m : Int) + 1, by omega, by omega, rfl, trivial⟩
                  case measure =>
                    show ((N : Int) + 1 - ((m : Int) + 1)).toNat < ((N : Int) + 1 - (m : Int)).toNat
                    omega
            · have b5 : decide (j ≤ (N : Int)) = false := decide_eq_false hjn
              have e0 : wr.cell? ⟨w.heap.size, 0, none⟩ = some (.int .i64 ra) := hc.cell (by simp) (fun q => q)
              have e1 : wr.cell? ⟨w.heap.size, 1, none⟩ = some (.int .i64 rb) := hc.cell (by simp) (fun q => q)
              have hfn := bits_Find_all wr p g x rb hr hrb
              have hfr := ref02_Find_all (One g) wr q cx x rb hs (by omega) hrb
              rw [hx] at hfr
              go_wp2_with fail
              with_reducible refine hfn.mono ?_
              rintro e w5 ⟨r, rfl, hr1, rfl⟩
              rw [optV_eq]
              dsimp only
              go_wp2_with fail
              with_reducible refine hfr.mono ?_
              rintro e w5 ⟨r', rfl, hr2, hc5⟩
              obtain rfl := hr1.uniq hr2
              rw [optV_eq]
              have hr5 := hr.ch0 hc5
              have hs5 := hs.ch0 hc5
              have hcw5 := hc.trans hc5
              have e2 := hc5.cell e0 (fun q => q)
              have hnx := bits_Next w5 p g x ra hr5 hra
              have hnr := ref02_Next (One g) w5 q cx x ra hs5 hra (by omega)
              rw [hx] at hnr
              obtain ⟨fN, hfN⟩ : ∃ z, z = optN r := ⟨_, rfl⟩
              obtain ⟨fB, hfB⟩ : ∃ z, z = r.isSome := ⟨_, rfl⟩
              rw [← hfN, ← hfB]
              clear hfN hfB hr1 hr2 hfn hfr
              dsimp only
              go_wp2_with fail
              with_reducible refine hnx.mono ?_
              rintro e w6 ⟨s, rfl, hs1, rfl⟩
              rw [optV_eq]
              dsimp only
              go_wp2_with fail
              with_reducible refine hnr.mono ?_
              rintro e w6 ⟨s', rfl, hs2, rfl⟩
              obtain rfl := hs1.uniq hs2
              rw [optV_eq]
              obtain ⟨nN, hnN⟩ : ∃ z, z = optN s := ⟨_, rfl⟩
              obtain ⟨nB, hnB⟩ : ∃ z, z = s.isSome := ⟨_, rfl⟩
              rw [← hnN, ← hnB]
              clear hnN hnB hs1 hs2 hnx hnr
              have kT : ∀ w', RowAt w' p g x → Calls Try.prog 25 #[.pointer (some ⟨p, 0, none⟩), .agg #[.int .i64 ra, .int .i64 rb], .bool true] w' fun e w'' => e = .returned (.bool (wholeB x ra rb true)) ∧ Ch No w' w'' := fun w' h' => bits_Whole w' p g x ra rb true h' hra hrb
              have kF : ∀ w', RowAt w' p g x → Calls Try.prog 25 #[.pointer (some ⟨p, 0, none⟩), .agg #[.int .i64 ra, .int .i64 rb], .bool false] w' fun e w'' => e = .returned (.bool (wholeB x ra rb false)) ∧ Ch No w' w'' := fun w' h' => bits_Whole w' p g x ra rb false h' hra hrb
              have rT : ∀ w', SlR boolRp No w' q cx x → Calls Try.prog 32 #[.slice q N cx, .agg #[.int .i64 ra, .int .i64 rb], .bool true] w' fun e w'' => e = .returned (.bool (wholeB x ra rb true)) ∧ Ch No w' w'' := by
                intro w' h'
                have := ref02_Whole No w' q cx x ra rb true h' hra hrb (by omega)
                rwa [hx] at this
              have rF : ∀ w', SlR boolRp No w' q cx x → Calls Try.prog 32 #[.slice q N cx, .agg #[.int .i64 ra, .int .i64 rb], .bool false] w' fun e w'' => e = .returned (.bool (wholeB x ra rb false)) ∧ Ch No w' w'' := by
                intro w' h'
                have := ref02_Whole No w' q cx x ra rb false h' hra hrb (by omega)
                rwa [hx] at this
              obtain ⟨vT, hvT⟩ : ∃ z, z = wholeB x ra rb true := ⟨_, rfl⟩
              obtain ⟨vF, hvF⟩ : ∃ z, z = wholeB x ra rb false := ⟨_, rfl⟩
              simp only [← hvT] at kT rT
              simp only [← hvF] at kF rF
              have hH : Held02 w ra rb p g x q cx w5.drew := ⟨hr5.ch0 (Ch.refl _ _).drew, (hs5.ch0 (Ch.refl _ _).drew).more (fun _ q => False.elim q), hcw5.drew⟩
              clear hvT hvF hr hs hr5 hs5 e0 e1 e2 hc5 hcw5 hc hp hg
              go_wp2_with fail
              go_region_held3 (fun w' : World => (w'.cell? ⟨w.heap.size, 0, none⟩ = some (.int .i64 ra) ∧ w'.cell? ⟨w.heap.size, 1, none⟩ = some (.int .i64 rb)) ∧ Held02 w ra rb p g x q cx w') (first | assumption | exact Held02.full (by assumption) | fail) (first
                | (go_at_call 11; with_reducible refine (fixed02 _).mono ?_; rintro e w9 ⟨rfl, hc9⟩; have hH9 := Held02.ch0 (And.right (by assumption)) hc9; (try dsimp only))
                | (go_at_call 25; with_reducible refine (kT _ (Held02.row (And.right (by assumption)))).mono ?_; rintro e w9 ⟨rfl, hc9⟩; have hH9 := Held02.ch0 (And.right (by assumption)) hc9; (try dsimp only))
                | (go_at_call 25; with_reducible refine (kF _ (Held02.row (And.right (by assumption)))).mono ?_; rintro e w9 ⟨rfl, hc9⟩; have hH9 := Held02.ch0 (And.right (by assumption)) hc9; (try dsimp only))
                | (go_at_call 32; with_reducible refine (rT _ (Held02.sl (And.right (by assumption)))).mono ?_; rintro e w9 ⟨rfl, hc9⟩; have hH9 := Held02.ch0 (And.right (by assumption)) hc9; (try dsimp only))
                | (go_at_call 32; with_reducible refine (rF _ (Held02.sl (And.right (by assumption)))).mono ?_; rintro e w9 ⟨rfl, hc9⟩; have hH9 := Held02.ch0 (And.right (by assumption)) hc9; (try dsimp only))
                | fail)
              go_wp2_with fail
              go_ret
              have hE := Held02.ch (And.right (by assumption))
              exact ⟨rfl, fin _ hE⟩
end Go.Proofs.Ytpldogmamifdpaa

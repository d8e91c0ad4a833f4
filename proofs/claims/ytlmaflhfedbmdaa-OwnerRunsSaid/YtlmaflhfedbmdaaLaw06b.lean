/- The law OwnerPlays: the walk. -/
import Derived.Test.YtlmaflhfedbmdaaLaw06
set_option linter.unusedVariables false
set_option linter.unusedSimpArgs false
namespace Go.Proofs.Ytlmaflhfedbmdaa
open Go Go.RowKit

/-- A callee that leaves the world: met in a quiet walk. -/
theorem quiet_eq {P : Program} {f : FuncId} {args : Array Value} {w : World} {n : Nat} {v : Value}
    (h : Calls P f args (w.drewN n) fun e w' => e = .returned v ∧ w.drewN n = w') : Calls P f args (w.drewN n) fun e w'' => e = .returned v ∧ ∃ m, w'' = w.drewN m :=
  h.mono fun _ _ ⟨he, hm⟩ => ⟨he, n, hm.symm⟩

structure OAct where
  x : Int
  y : Int
  o : Int
def oactRp : Rp OAct := flat 3 (fun a => [.int .i64 a.x, .int .i64 a.y, .int .i64 a.o]) (fun _ => rfl) (by intro x u hu; simp at hu; rcases hu with rfl | rfl | rfl <;> rfl) (fun a => I64 a.x ∧ I64 a.y ∧ I64 a.o)
theorem SlR.oact_at {F : Nat → Prop} {w : World} {a : Option Addr} {c : Nat} {l : List OAct} (h : SlR oactRp F w a c l) (i : Nat) (hi : i < l.length) :
    ∃ b off, a = some ⟨b, off, none⟩ ∧ b < w.heap.size ∧ w.cell? ⟨b, off + i * 3, none⟩ = some (.int .i64 l[i].x) ∧ w.cell? ⟨b, off + i * 3 + 1, none⟩ = some (.int .i64 l[i].y) ∧ w.cell? ⟨b, off + i * 3 + 2, none⟩ = some (.int .i64 l[i].o) ∧ I64 l[i].x ∧ I64 l[i].y ∧ I64 l[i].o := by
  obtain ⟨b, off, ha, hb, hlt, es, hc, he, hw⟩ := h.at_ i hi
  subst he
  exact ⟨b, off, ha, hlt, hc 0 _ rfl, hc 1 _ rfl, hc 2 _ rfl, hw⟩

/-- What stands while the last region runs. -/
structure Held06 (w : World) (p0 p1 : Int) (p m N : Nat) (xs : List Int) (G : Nat → Prop) (ax : Option Addr) (cx : Nat) (w' : World) : Prop where
  own : OwnAt w' p m N (pageAt xs) G
  sl : SlR (intRp .i64) G w' ax cx xs
  ch : Ch No (w.alloc (.cells #[.int .i64 p0, .int .i64 p1] 66)) w'
theorem Held06.ch0 {w : World} {p0 p1 : Int} {p m N : Nat} {xs : List Int} {G : Nat → Prop} {ax : Option Addr} {cx : Nat} {w' w'' : World} (h : Held06 w p0 p1 p m N xs G ax cx w') (hc : Ch No w' w'') : Held06 w p0 p1 p m N xs G ax cx w'' :=
  ⟨h.own.ch0 hc, h.sl.ch0 hc, h.ch.trans hc⟩
theorem Held06.full {w : World} {p0 p1 : Int} {p m N : Nat} {xs : List Int} {G : Nat → Prop} {ax : Option Addr} {cx : Nat} {w' : World} (h : Held06 w p0 p1 p m N xs G ax cx w') :
    (w'.cell? ⟨w.heap.size, 0, none⟩ = some (.int .i64 p0) ∧ w'.cell? ⟨w.heap.size, 1, none⟩ = some (.int .i64 p1)) ∧ Held06 w p0 p1 p m N xs G ax cx w' :=
  ⟨⟨h.ch.cell (by simp) (fun q => q), h.ch.cell (by simp) (fun q => q)⟩, h⟩

set_option maxRecDepth 100000 in
set_option maxHeartbeats 4000000 in
theorem plays06 (w : World) (n : Int) (a : Option Addr) (c : Nat) (l : List OAct) (p0 p1 : Int) (h : SlR oactRp No w a c l) (hi : I64 n) (hp0 : I64 p0) (hp1 : I64 p1) (hl : l.length ≤ 9223372036854775807) :
    Calls Try.prog 8 #[.int .i64 n, .slice a l.length c, .agg #[.int .i64 p0, .int .i64 p1]] w fun e w' => e = .returned (.bool true) ∧ Ch No w w' := by
  have hi' := hi.bd
  by_cases hcut : (300 < n ∧ n ≤ 1024) ∨ 60 < l.length
  · by_cases h1 : 300 < n ∧ n ≤ 1024
    · have b1 : decide (n > 300) = true := by simp; omega
      have b2 : decide (n ≤ 1024) = true := by simp; omega
      go_enter Try.func8, Try.ntmps8
      go_wp2_with fail
      with_reducible refine (fixed06 _).mono ?_
      rintro e w1 ⟨rfl, hc⟩
      dsimp only
      go_wp2_with fail
      go_ret
      exact ⟨rfl, ((Ch.refl _ _).alloc _).trans hc⟩
    · have b3 : decide ((l.length : Int) > 60) = true := by simp; omega
      by_cases h3 : 300 < n
      · have b1 : decide (n > 300) = true := by simp; omega
        have b2 : decide (n ≤ 1024) = false := by simp; omega
        go_enter Try.func8, Try.ntmps8
        go_wp2_with fail
        with_reducible refine (fixed06 _).mono ?_
        rintro e w1 ⟨rfl, hc⟩
        dsimp only
        go_wp2_with fail
        go_ret
        exact ⟨rfl, ((Ch.refl _ _).alloc _).trans hc⟩
      · have b1 : decide (n > 300) = false := by simp; omega
        go_enter Try.func8, Try.ntmps8
        go_wp2_with fail
        with_reducible refine (fixed06 _).mono ?_
        rintro e w1 ⟨rfl, hc⟩
        dsimp only
        go_wp2_with fail
        go_ret
        exact ⟨rfl, ((Ch.refl _ _).alloc _).trans hc⟩
  · have b3 : decide ((l.length : Int) > 60) = false := by simp; omega
    have key : (decide (n > 300) = true ∧ decide (n ≤ 1024) = false) ∨ decide (n > 300) = false := by simp; omega
    have hl60 : l.length ≤ 60 := by omega
    clear hcut hl
    obtain ⟨N, hN⟩ : ∃ N, N = (min (max n 0) 1024).toNat := ⟨_, rfl⟩
    have hN1 : N ≤ 1024 := by omega
    rcases key with ⟨b1, b2⟩ | b1
    all_goals
      go_enter Try.func8, Try.ntmps8
      go_wp2_with fail
      with_reducible refine (owner_New n _ hi No).mono ?_
      rintro e w1 ⟨p, m, rfl, hs1, hc1, hp1', hm1'⟩
      rw [← hN] at hs1
      dsimp only
      go_wp2_with fail
      with_reducible refine (ref06_New (Two p m) n _ hi (fun k hk => hs1.glt k hk)).mono ?_
      rintro e w2 ⟨v, rfl, ho2, hc2⟩
      rw [← hN] at ho2
      obtain ⟨a2, c2, rfl, hr2⟩ := ho2.sl (fun k hk => hs1.glt k hk)
      have hs2 := hs1.ch0 hc2
      rw [show (fun _ => (0 : Int)) = pageAt (List.replicate N 0) from by funext q; rw [pageAt_zeros]] at hs2
      obtain ⟨xs0, hx0⟩ : ∃ z, z = List.replicate N (0 : Int) := ⟨_, rfl⟩
      have hxl : xs0.length = N := by rw [hx0, List.length_replicate]
      rw [← hx0] at hs2 hr2
      simp only [← hx0, hxl]
      have HX := Lib.hid hx0; have HN := Lib.hid hN
      clear hx0 hN
      go_wp2_with fail
      go_loopw [8, 37] (fun v i wr => ∃ (k : Nat) (xs : List Int) (ax : Option Addr) (cx : Nat) (G : Nat → Prop), k ≤ l.length ∧ i = .int .i64 k ∧ xs.length = N ∧ v = .slice ax N cx ∧ OwnAt wr p m N (pageAt xs) G ∧ SlR (intRp .i64) G wr ax cx xs ∧ (∀ q, G q → w.heap.size < q) ∧ Ch No (w.alloc (.cells #[.int .i64 p0, .int .i64 p1] 66)) wr) (fun _ i _ => l.length - (intOf i).toNat)
      case atStart =>
        refine ⟨0, xs0, a2, c2, _, by omega, rfl, hxl, rfl, hs2, hr2, ?_, ?_⟩
        · simp only [World.size_alloc] at hp1' hm1'
          rintro q (rfl | rfl) <;> omega
        · exact hc1.trans hc2
      case round =>
        obtain ⟨k, xs, ax, cx, G, hk, rfl, hxs, rfl, hs, hr, hG, hc⟩ := hrel
        by_cases hlt : k < l.length
        · obtain ⟨b, off, rfl, _, d0, d1, d2, hx, hy, ho⟩ := (h.ch0 (((Ch.refl _ _).alloc _).trans hc)).oact_at k hlt
          obtain ⟨A, hA⟩ : ∃ A, A = l[k] := ⟨_, rfl⟩
          rw [← hA] at d0 d1 d2 hx hy ho
          clear hA
          clear hs1 hs2 hr2 ho2 h
          go_wp2_with fail
          have hal : Ch No wr (wr.alloc (.cells #[.int .i64 A.x, .int .i64 A.y, .int .i64 A.o] 74)) := (Ch.refl _ _).alloc _
          have hnG : ¬ G wr.heap.size := fun e => by have := hs.glt _ e; omega
          with_reducible refine (owner_Set _ p m N xs G A.x A.y A.o (hs.ch0 hal) hxs hx hy ho).mono ?_
          rintro e w4 ⟨rfl, G', hs4, hGG, hGn, hc4⟩
          have e0 : w4.cell? ⟨wr.heap.size, 0, none⟩ = some (.int .i64 A.x) := hc4.cell (by simp) hnG
          have e1 : w4.cell? ⟨wr.heap.size, 1, none⟩ = some (.int .i64 A.y) := hc4.cell (by simp) hnG
          have e2 : w4.cell? ⟨wr.heap.size, 2, none⟩ = some (.int .i64 A.o) := hc4.cell (by simp) hnG
          have hr4 : SlR (intRp .i64) G' w4 ax cx xs := ((hr.ch0 hal).more hGn).ch hc4 hGG
          have hcall := ref06_Set G' w4 ax cx xs A.x A.y A.o hr4 hx hy ho (by omega) (fun q hq => hs4.glt q hq)
          rw [setL_length, hxs] at hcall
          have hsz := hc.size
          have hsz4 := hc4.size
          simp only [World.size_alloc] at hsz hsz4 hGn
          dsimp only
          clear hr hs hr4
          go_wp2_with fail
          with_reducible refine hcall.mono ?_
          rintro e w5 ⟨a5, c5, rfl, hr5, hc5⟩
          have hs5 := hs4.ch0 hc5
          have hb : (setErr N A.x A.y A.o != setErr N A.x A.y A.o) = false := by simp
          have hc6 : Ch No (w.alloc (.cells #[.int .i64 p0, .int .i64 p1] 66)) w5 := ((hc.trans hal).andThen hc4 (fun q hq => .inr (by simp only [World.size_alloc]; exact hG q hq))).trans hc5
          have hl5 := setL_length xs A.x A.y A.o
          rw [hxs] at hl5
          obtain ⟨ys, hys⟩ : ∃ z, z = setL xs A.x A.y A.o := ⟨_, rfl⟩
          rw [← hys] at hl5 hs5 hr5
          clear hcall hys hs4
          go_wp2_with fail
          go_roundw
          case rel => exact ⟨k + 1, ys, a5, c5, G', by omega, by go_num, hl5, rfl, hs5, hr5, fun q hq => (hGn q hq).elim (hG q) (fun h' => by omega), hc6⟩
          case measure => exact meas_lt (by omega)
        · obtain rfl : k = l.length := by omega
          clear hs1 hs2 hr2 ho2 h
          have k0 : wr.cell? ⟨w.heap.size, 0, none⟩ = some (.int .i64 p0) := hc.cell (by simp) (fun q => q)
          have k1 : wr.cell? ⟨w.heap.size, 1, none⟩ = some (.int .i64 p1) := hc.cell (by simp) (fun q => q)
          go_wp2_with fail
          go_loopw [14, 63] (fun ow i wq => ∃ j : Nat, j ≤ N ∧ i = .int .i64 j ∧ ow = .int .i64 (ownedOf (pageAt xs) j) ∧ Ch No wr wq) (fun _ i _ => N - (intOf i).toNat)
          case atStart => exact ⟨0, by omega, rfl, rfl, Ch.refl _ _⟩
          case round =>
            obtain ⟨j, hj, rfl, rfl, hcq⟩ := hrel
            have hsq := hs.ch0 hcq
            by_cases hjt : j < N
            · obtain ⟨b, off, rfl, _, _, g1, _⟩ := (hr.ch0 hcq).int_at j (by omega)
              have hv : xs[j] = pageAt xs j := by rw [pageAt_in xs j (by omega)]
              rw [hv] at g1
              have hg2 := hcq.size
              go_wp2_with fail
              have q0 : ∀ n, Calls Try.prog 34 #[.pointer (some ⟨p, 0, none⟩), .int .i64 (j : Int)] (wr.drewN n) fun e w' => e = .returned (.int .i64 (pageAt xs j)) ∧ wr.drewN n = w' :=
                fun n => owner_Page _ p m N _ G (j : Int) (hsq.ch0 ((Ch.refl _ _).drewN n)) (show _ ∧ _ from by omega)
              have q1 : ∀ n, Calls Try.prog 35 #[.pointer (some ⟨p, 0, none⟩), .int .i64 (16 * (j : Int))] (wr.drewN n) fun e w' => e = .returned (.int .i64 (pageAt xs j)) ∧ wr.drewN n = w' := by
                intro n
                have := owner_Word _ p m N _ G (16 * (j : Int)) (hsq.ch0 ((Ch.refl _ _).drewN n)) (show _ ∧ _ from by omega)
                rwa [show 16 * (j : Int) / 16 = j by omega] at this
              have q2 : ∀ n, Calls Try.prog 35 #[.pointer (some ⟨p, 0, none⟩), .int .i64 (16 * (j : Int) + 15)] (wr.drewN n) fun e w' => e = .returned (.int .i64 (pageAt xs j)) ∧ wr.drewN n = w' := by
                intro n
                have := owner_Word _ p m N _ G (16 * (j : Int) + 15) (hsq.ch0 ((Ch.refl _ _).drewN n)) (show _ ∧ _ from by omega)
                rwa [show (16 * (j : Int) + 15) / 16 = j by omega] at this
              have W1 : IntKind.i64.wrap (16 * (j : Int)) = 16 * j := IntWalk.i64_in _ (by omega)
              have W2 : IntKind.i64.wrap (16 * (j : Int) + 15) = 16 * j + 15 := IntWalk.i64_in _ (by omega)
              obtain ⟨y, hy⟩ : ∃ y, y = pageAt xs j := ⟨_, rfl⟩
              rw [← hy] at q0 q1 q2 g1
              have hne : (y != y) = false := by simp
              have HY := Lib.hid hy; clear hy hv
              go_quiet (first | (go_at_call 34; with_reducible exact quiet_eq (q0 _)) | (go_at_call 35; with_reducible exact quiet_eq (q1 _)) | (go_at_call 35; with_reducible exact quiet_eq (q2 _)))
              have hb1 := ownedOf_le (pageAt xs) j
              obtain ⟨t, ht⟩ : ∃ t, t = ownedOf (pageAt xs) j := ⟨_, rfl⟩
              rw [← ht] at hb1
              simp only [← ht]
              have HT := Lib.hid ht; clear ht
              by_cases hy0 : 0 < y
              · have hyd : decide (y > 0) = true := decide_eq_true hy0
                go_wp2_with fail
                go_roundw
                case rel => exact ⟨j + 1, by omega, by go_num, by rw [ownedOf, ← HT.out, if_pos (by rw [← HY.out]; exact hy0)]; go_num, hcq.drewN _⟩
                case measure => exact meas_lt (by omega)
              · have hyd : decide (y > 0) = false := decide_eq_false (by omega)
                go_wp2_with fail
                go_roundw
                case rel => exact ⟨j + 1, by omega, by go_num, by rw [ownedOf, ← HT.out, if_neg (by rw [← HY.out]; omega)]; rfl, hcq.drewN _⟩
                case measure => exact meas_lt (by omega)
            · obtain rfl : N = j := by omega
              have hsN := hs.ch0 hcq
              have hrN := hr.ch0 hcq
              have k0 := hcq.cell k0 (fun q => q)
              have k1 := hcq.cell k1 (fun q => q)
              have hcE := hc.trans hcq
              clear hs hr hcq hsq hc hlt hj hjt
              obtain ⟨ow, how⟩ : ∃ t, t = ownedOf (pageAt xs) N := ⟨_, rfl⟩
              simp only [← how]
              have c1 := owner_Owned wr p m N (pageAt xs) G
              rw [← how] at c1
              have c2 : ∀ (w : World) (i : Int), SlR (intRp .i64) G w ax cx xs → I64 i → Calls Try.prog 36 #[.slice ax N cx, .int .i64 i] w fun e w' => e = .returned (.int .i64 (pageAt xs i)) ∧ w = w' := by
                intro w i h1 h2
                have := ref06_Page G w ax cx xs i h1 h2 (by omega)
                rwa [hxs] at this
              have hp0' := hp0.bd
              have c3 : ∀ (w : World), OwnAt w p m N (pageAt xs) G → Calls Try.prog 37 #[.pointer (some ⟨p, 0, none⟩)] w fun e w' => e = .returned (.int .i64 ow) ∧ w = w' := by
                intro w h
                have := owner_Owned w p m N (pageAt xs) G h
                rwa [← how] at this
              obtain ⟨L, hL⟩ : ∃ L, L = (if p1 < 1 then [] else runsOf (pageAt xs) p1 N) := ⟨_, rfl⟩
              have hLl : L.length ≤ 100000 := by
                rw [hL]
                split
                · simp
                · have := runsOf_length (pageAt xs) p1 N; omega
              have c4 : ∀ (w : World), OwnAt w p m N (pageAt xs) G → Calls Try.prog 39 #[.pointer (some ⟨p, 0, none⟩), .int .i64 p1] w fun e w' => ∃ a c, e = .returned (.slice a L.length c) ∧ SlR (pairRp .i64) No w' a c L ∧ Ch No w w' := by
                intro w h
                refine (owner_Of No w p m N (pageAt xs) G p1 h hp1 (fun _ q => q.elim)).mono ?_
                rintro e w' ⟨v, rfl, hv, hc⟩
                rw [← hL] at hv
                obtain ⟨a, c, rfl, hs⟩ := hv.sl (fun _ q => q.elim)
                exact ⟨a, c, rfl, hs, hc⟩
              have c5 : ∀ (w : World), SlR (intRp .i64) G w ax cx xs → Calls Try.prog 40 #[.slice ax N cx, .int .i64 p1] w fun e w' => ∃ a c, e = .returned (.slice a L.length c) ∧ SlR (pairRp .i64) No w' a c L ∧ Ch No w w' := by
                intro w h
                have := ref06_Of No w ax cx xs p1 (h.more (fun _ q => q.elim)) hp1 (by omega) (fun _ q => q.elim)
                rw [hxs] at this
                refine this.mono ?_
                rintro e w' ⟨v, rfl, hv, hc⟩
                rw [← hL] at hv
                obtain ⟨a, c, rfl, hs⟩ := hv.sl (fun _ q => q.elim)
                exact ⟨a, c, rfl, hs, hc⟩
              have c6 : ∀ (w : World) (a a' : Option Addr) (c c' : Nat), SlR (pairRp .i64) No w a c L → SlR (pairRp .i64) No w a' c' L → Calls Try.prog 38 #[.slice a L.length c, .slice a' L.length c'] w fun e w' => e = .returned (.bool true) ∧ Ch No w w' := by
                intro w a a' c c' h h'
                have := ref06_Same No No w a a' c c' L L h h' hLl hLl
                rwa [decide_eq_true rfl] at this
              have hH : Held06 w p0 p1 p m N xs G ax cx wr.drew := ⟨hsN.ch0 (Ch.refl _ _).drew, hrN.ch0 (Ch.refl _ _).drew, hcE.drew⟩
              obtain ⟨y0, hy0⟩ : ∃ y, y = pageAt xs p0 := ⟨_, rfl⟩
              have d2 : ∀ (w : World), OwnAt w p m N (pageAt xs) G → Calls Try.prog 34 #[.pointer (some ⟨p, 0, none⟩), .int .i64 p0] w fun e w' => e = .returned (.int .i64 y0) ∧ w = w' := by
                intro w h
                have := owner_Page w p m N (pageAt xs) G p0 h hp0
                rwa [← hy0] at this
              have d3 : ∀ (w : World), SlR (intRp .i64) G w ax cx xs → Calls Try.prog 36 #[.slice ax N cx, .int .i64 p0] w fun e w' => e = .returned (.int .i64 y0) ∧ w = w' := by
                intro w h
                have := c2 w p0 h hp0
                rwa [← hy0] at this
              by_cases hp : 0 ≤ p0
              · have hpd : decide (p0 ≥ 0) = true := decide_eq_true hp
                have ht : p0.tdiv 16 = p0 / 16 := Int.tdiv_eq_ediv_of_nonneg hp
                have W3 : IntKind.i64.wrap (p0 / 16) = p0 / 16 := IntWalk.i64_in _ (by omega)
                have hw : I64 (p0 / 16) := show _ ∧ _ from by omega
                obtain ⟨y1, hy1⟩ : ∃ y, y = pageAt xs (p0 / 16) := ⟨_, rfl⟩
                have d4 : ∀ (w : World), OwnAt w p m N (pageAt xs) G → Calls Try.prog 35 #[.pointer (some ⟨p, 0, none⟩), .int .i64 p0] w fun e w' => e = .returned (.int .i64 y1) ∧ w = w' := by
                  intro w h
                  have := owner_Word w p m N (pageAt xs) G p0 h hp0
                  rwa [← hy1] at this
                have e1 := c2 _ (p0 / 16) hrN hw
                rw [← hy1] at e1
                clear hy0 hy1 hL how c1 c2 hsN hrN hcE hc1 hc2
                go_wp2_with fail
                with_reducible refine e1.mono ?_
                rintro e w5 ⟨rfl, rfl⟩
                dsimp only
                go_wp2_with fail
                clear e1 ht W3 hpd k0 k1
                go_region_held3 (fun w' : World => (w'.cell? ⟨w.heap.size, 0, none⟩ = some (.int .i64 p0) ∧ w'.cell? ⟨w.heap.size, 1, none⟩ = some (.int .i64 p1)) ∧ Held06 w p0 p1 p m N xs G ax cx w') (first | assumption | exact Held06.full (by assumption)) (first
                  | (go_at_call 29; with_reducible refine (fixed06 _).mono ?_; rintro e w9 ⟨rfl, hc9⟩; have hH9 := Held06.ch0 (And.right (by assumption)) hc9; (try dsimp only))
                  | (go_at_call 37; with_reducible refine (c3 _ (Held06.own (And.right (by assumption)))).mono ?_; rintro e w9 ⟨rfl, rfl⟩; (try dsimp only))
                  | (go_at_call 34; with_reducible refine (d2 _ (Held06.own (And.right (by assumption)))).mono ?_; rintro e w9 ⟨rfl, rfl⟩; (try dsimp only))
                  | (go_at_call 36; with_reducible refine (d3 _ (Held06.sl (And.right (by assumption)))).mono ?_; rintro e w9 ⟨rfl, rfl⟩; (try dsimp only))
                  | (go_at_call 35; with_reducible refine (d4 _ (Held06.own (And.right (by assumption)))).mono ?_; rintro e w9 ⟨rfl, rfl⟩; (try dsimp only))
                  | (go_at_call 39; with_reducible refine (c4 _ (Held06.own (And.right (by assumption)))).mono ?_; rintro e w9 ⟨a9, c9, rfl, hs9, hc9⟩; have hH9 := Held06.ch0 (And.right (by assumption)) hc9; (try have hs8 := SlR.ch0 (e := pairRp .i64) (by assumption) hc9); (try dsimp only))
                  | (go_at_call 40; with_reducible refine (c5 _ (Held06.sl (And.right (by assumption)))).mono ?_; rintro e w9 ⟨a9, c9, rfl, hs9, hc9⟩; have hH9 := Held06.ch0 (And.right (by assumption)) hc9; (try have hs8 := SlR.ch0 (e := pairRp .i64) (by assumption) hc9); (try dsimp only))
                  | (go_at_call 38; with_reducible refine (c6 _ _ _ _ _ (by assumption) (by assumption)).mono ?_; rintro e w9 ⟨rfl, hc9⟩; have hH9 := Held06.ch0 (And.right (by assumption)) hc9; (try dsimp only)))
                go_wp2_with fail
                go_ret
                have hE := Held06.ch (And.right (by assumption))
                exact ⟨rfl, ((Ch.refl _ _).alloc _).trans hE⟩
              · have hpd : decide (p0 ≥ 0) = false := decide_eq_false hp
                have d4 : ∀ (w : World), OwnAt w p m N (pageAt xs) G → Calls Try.prog 35 #[.pointer (some ⟨p, 0, none⟩), .int .i64 p0] w fun e w' => e = .returned (.int .i64 0) ∧ w = w' := by
                  intro w h
                  have := owner_Word w p m N (pageAt xs) G p0 h hp0
                  rwa [pageAt_out xs (p0 / 16) (by omega)] at this
                clear hy0 hL how c1 c2 hsN hrN hcE hc1 hc2
                go_wp2_with fail
                clear hpd k0 k1
                go_region_held3 (fun w' : World => (w'.cell? ⟨w.heap.size, 0, none⟩ = some (.int .i64 p0) ∧ w'.cell? ⟨w.heap.size, 1, none⟩ = some (.int .i64 p1)) ∧ Held06 w p0 p1 p m N xs G ax cx w') (first | assumption | exact Held06.full (by assumption)) (first
                  | (go_at_call 29; with_reducible refine (fixed06 _).mono ?_; rintro e w9 ⟨rfl, hc9⟩; have hH9 := Held06.ch0 (And.right (by assumption)) hc9; (try dsimp only))
                  | (go_at_call 37; with_reducible refine (c3 _ (Held06.own (And.right (by assumption)))).mono ?_; rintro e w9 ⟨rfl, rfl⟩; (try dsimp only))
                  | (go_at_call 34; with_reducible refine (d2 _ (Held06.own (And.right (by assumption)))).mono ?_; rintro e w9 ⟨rfl, rfl⟩; (try dsimp only))
                  | (go_at_call 36; with_reducible refine (d3 _ (Held06.sl (And.right (by assumption)))).mono ?_; rintro e w9 ⟨rfl, rfl⟩; (try dsimp only))
                  | (go_at_call 35; with_reducible refine (d4 _ (Held06.own (And.right (by assumption)))).mono ?_; rintro e w9 ⟨rfl, rfl⟩; (try dsimp only))
                  | (go_at_call 39; with_reducible refine (c4 _ (Held06.own (And.right (by assumption)))).mono ?_; rintro e w9 ⟨a9, c9, rfl, hs9, hc9⟩; have hH9 := Held06.ch0 (And.right (by assumption)) hc9; (try have hs8 := SlR.ch0 (e := pairRp .i64) (by assumption) hc9); (try dsimp only))
                  | (go_at_call 40; with_reducible refine (c5 _ (Held06.sl (And.right (by assumption)))).mono ?_; rintro e w9 ⟨a9, c9, rfl, hs9, hc9⟩; have hH9 := Held06.ch0 (And.right (by assumption)) hc9; (try have hs8 := SlR.ch0 (e := pairRp .i64) (by assumption) hc9); (try dsimp only))
                  | (go_at_call 38; with_reducible refine (c6 _ _ _ _ _ (by assumption) (by assumption)).mono ?_; rintro e w9 ⟨rfl, hc9⟩; have hH9 := Held06.ch0 (And.right (by assumption)) hc9; (try dsimp only)))
                go_wp2_with fail
                go_ret
                have hE := Held06.ch (And.right (by assumption))
                exact ⟨rfl, ((Ch.refl _ _).alloc _).trans hE⟩
end Go.Proofs.Ytlmaflhfedbmdaa

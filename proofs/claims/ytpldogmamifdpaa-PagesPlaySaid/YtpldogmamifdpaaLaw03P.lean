/- The law PagesPlay: the walk. -/
import Derived.Test.YtpldogmamifdpaaRef03
import Derived.Deep.DeepCutAuto
set_option linter.unusedVariables false
set_option linter.unusedSimpArgs false
namespace Go.Proofs.Ytpldogmamifdpaa
open Go Go.RowKit

def optP (r : Option Nat) : Nat := r.getD 0
theorem optP_eq (r : Option Nat) : optV r = .tuple #[.int .i64 (optP r), .bool r.isSome] := by cases r <;> rfl

theorem grant_words {x : List Bool} {W : List Int} {n a E : Int} {x' : List Bool} {W' : List Int} {M : Nat} (h : GrantTo x W n a E x' W') (hM : M ≤ W.length) : ∀ i : Nat, i < M → W'.getD i 0 = if E = 0 ∧ 16 * a ≤ (i : Int) ∧ (i : Int) < 16 * a + 16 * n then 0 else W.getD i 0 := by
  intro i hi
  rcases h with ⟨_, _, rfl, _, rfl⟩ | ⟨_, _, _, rfl, _, rfl⟩ | ⟨h1, j, _, rfl, rfl, _, rfl⟩
  · rw [if_neg (fun q => by have := q.1; omega)]
  · rw [if_neg (fun q => by have := q.1; omega)]
  · rw [fillL_get W (16 * j) 0 i (by omega)]
    by_cases h2 : 16 * j ≤ i ∧ i < 16 * j + 16 * n.toNat
    · rw [if_pos h2, if_pos ⟨rfl, by omega, by omega⟩]
    · rw [if_neg h2, if_neg (by omega)]
theorem grant_bd {x : List Bool} {W : List Int} {n a E : Int} {x' : List Bool} {W' : List Int} (h : GrantTo x W n a E x' W') : E = 0 → 0 ≤ a ∧ 1 ≤ n ∧ a + n ≤ x.length := by
  intro hE
  rcases h with ⟨_, _, rfl, _⟩ | ⟨_, _, _, rfl, _⟩ | ⟨h1, j, hf, rfl, rfl, _⟩
  · omega
  · omega
  · have := hf.1.1
    omega

/-- What stands while a word is written. -/
structure HeldW (w : World) (R : Nat) (kk aa bb : Int) (s p g m h : Nat) (x : List Bool) (q : Option Addr) (c : Nat) (w' : World) : Prop where
  pg : ∃ V, PagesAt w' s p g m h x V
  sl : SlR boolRp (Two g h) w' q c x
  blk : w'.heap[R]? = some (.cells #[.int .i64 kk, .int .i64 aa, .int .i64 bb] 76 (0, 0))
  ch : Ch No w w'
theorem HeldW.ch0 {w : World} {R : Nat} {kk aa bb : Int} {s p g m h : Nat} {x : List Bool} {q : Option Addr} {c : Nat} {w' w'' : World} (k : HeldW w R kk aa bb s p g m h x q c w') (hc : Ch No w' w'') : HeldW w R kk aa bb s p g m h x q c w'' := ⟨k.pg.imp fun V hV => hV.ch0 hc, k.sl.ch0 hc, hc.heap k.blk (fun q => q), k.ch.trans hc⟩
theorem HeldW.full {w : World} {R : Nat} {kk aa bb : Int} {s p g m h : Nat} {x : List Bool} {q : Option Addr} {c : Nat} {w' : World} (k : HeldW w R kk aa bb s p g m h x q c w') : w'.cell? ⟨R, 1, none⟩ = some (.int .i64 aa) ∧ HeldW w R kk aa bb s p g m h x q c w' := ⟨cellOf k.blk 1 rfl, k⟩
theorem held_Mem {w : World} {R : Nat} {kk aa bb : Int} {s p g m h : Nat} {x : List Bool} {q : Option Addr} {c : Nat} {w' : World} (k : HeldW w R kk aa bb s p g m h x q c w') :
    Calls Try.prog 47 #[.pointer (some ⟨s, 0, none⟩)] w' fun e w'' => e = .returned (.pointer (some ⟨m, 0, none⟩)) ∧ w' = w'' := by
  obtain ⟨V, hV⟩ := k.pg
  exact pages_Mem w' s p g m h x V hV
theorem held_Write {w : World} {R : Nat} {kk aa bb : Int} {s p g m h : Nat} {x : List Bool} {q : Option Addr} {c : Nat} {w' : World} (k : HeldW w R kk aa bb s p g m h x q c w') (hR : R ≠ h) (hw : w.heap.size ≤ h) (ia : I64 aa) :
    Calls Try.prog 52 #[.pointer (some ⟨m, 0, none⟩), .int .i64 aa, .int .u64 5] w' fun e w'' => (∃ u, e = .returned u) ∧ HeldW w R kk aa bb s p g m h x q c w'' := by
  obtain ⟨V, hV⟩ := k.pg
  refine (words_Write w' m h V aa 5 hV.mem ia (show _ ∧ _ from by omega)).mono ?_
  rintro e w'' ⟨hu, hm, hc⟩
  exact ⟨hu, ⟨_, hV.sp, hV.sg, hV.sm, hV.sh, hV.pm, hV.ph, hV.gm, hV.gh, hc.heap hV.head (fun q => hV.sh q), hV.row.ch hc (fun q => hV.ph q) (fun q => hV.gh q), hm, hV.le, by rw [wroteL_length]; exact hV.len⟩, k.sl.ch hc (fun q hq => .inr hq), hc.heap k.blk (fun q => hR q), k.ch.andThen hc (fun q hq => .inr (by have : q = h := hq; omega))⟩

theorem getB_div (x : List Bool) (i : Nat) (h : i < 16 * x.length) : getB x ((i / 16 : Nat) : Int) = x.getD (i / 16) false := getB_nat x _

set_option maxRecDepth 100000 in
set_option maxHeartbeats 32000000 in
theorem playP03 (w : World) (n : Int) (a : Option Addr) (c : Nat) (l : List PAct) (many : Int) (h : SlR pactRp No w a c l) (hi : I64 n) (hm : I64 many) (hl : l.length ≤ 9223372036854775807) :
    Calls Try.prog 10 #[.int .i64 n, .slice a l.length c, .int .i64 many] w fun e w' => e = .returned (.bool true) ∧ Ch No w w' := by
  have hi' := hi.bd
  by_cases hcut : (60 < n ∧ n ≤ 1024) ∨ 60 < l.length
  · have key : (decide (n > 60) = true ∧ decide (n ≤ 1024) = true) ∨ (decide (n > 60) = true ∧ decide (n ≤ 1024) = false ∧ decide ((l.length : Int) > 60) = true) ∨ (decide (n > 60) = false ∧ decide ((l.length : Int) > 60) = true) := by
      by_cases h1 : 60 < n
      · by_cases h2 : n ≤ 1024
        · exact .inl ⟨decide_eq_true h1, decide_eq_true h2⟩
        · exact .inr (.inl ⟨decide_eq_true h1, decide_eq_false h2, decide_eq_true (by omega)⟩)
      · exact .inr (.inr ⟨decide_eq_false h1, decide_eq_true (by omega)⟩)
    clear hcut
    rcases key with ⟨b1, b2⟩ | ⟨b1, b2, b3⟩ | ⟨b1, b3⟩
    all_goals
      go_enter Try.func10, Try.ntmps10
      go_wp2_with fail
      with_reducible refine (fixed03 _).mono ?_
      rintro e w1 ⟨rfl, hc⟩
      dsimp only
      go_wp2_with fail
      go_ret
      exact ⟨rfl, hc⟩
  · have b3 : decide ((l.length : Int) > 60) = false := decide_eq_false (by omega)
    have hl60 : l.length ≤ 60 := by omega
    by_cases hbad : n < 1 ∨ 1024 < n
    · have key : (decide (n > 60) = true ∧ decide (n ≤ 1024) = false) ∨ decide (n > 60) = false := by
        by_cases h3 : 60 < n
        · exact .inl ⟨decide_eq_true h3, decide_eq_false (by omega)⟩
        · exact .inr (decide_eq_false h3)
      have hn1 := pages_New_no w n hbad
      have hn2 := fun W => ref03_New_no W n hbad
      clear hcut hbad
      rcases key with ⟨b1, b2⟩ | b1
      all_goals
        go_enter Try.func10, Try.ntmps10
        go_wp2_with fail
        with_reducible refine hn1.mono ?_
        rintro e w1 ⟨rfl, rfl⟩
        dsimp only
        go_wp2_with fail
        with_reducible refine (hn2 _).mono ?_
        rintro e w2 ⟨v, rfl, hc2⟩
        dsimp only
        go_wp2_with fail
        with_reducible refine (fixed03 w2).mono ?_
        rintro e w3 ⟨rfl, hc3⟩
        dsimp only
        go_wp2_with fail
        go_ret
        exact ⟨rfl, hc2.trans hc3⟩
    · obtain ⟨N, rfl⟩ : ∃ N : Nat, n = N := ⟨n.toNat, by omega⟩
      have hN1 : 1 ≤ N ∧ N ≤ 60 := by omega
      have b1 : decide ((N : Int) > 60) = false := decide_eq_false (by omega)
      have W16 : IntKind.i64.wrap (16 * (N : Int)) = ((16 * N : Nat) : Int) := by rw [IntWalk.i64_in _ (by omega)]; omega
      have hnew := pages_New w N hN1.1 (by omega)
      have hnew2 := fun (F : Nat → Prop) W hF => ref03_New F W N hN1.1 (by omega) hF
      obtain ⟨M16, hM16⟩ : ∃ z, z = 16 * N := ⟨_, rfl⟩
      rw [← hM16] at W16 hnew
      have HM16 := Lib.hid hM16
      clear hcut hbad hl hi' hM16
      go_enter Try.func10, Try.ntmps10
      go_wp2_with fail
      with_reducible refine hnew.mono ?_
      rintro e w1 ⟨s, p, g, m, h', rfl, k1, hs, hp, hg, hmm, hh, hc1⟩
      have hlt1 := k1.lt
      have hF1 : ∀ k, Two g h' k → k < w1.heap.size := fun k hk => by rcases hk with q | q <;> omega
      dsimp only
      go_wp2_with fail
      with_reducible refine (hnew2 (Two g h') w1 hF1).mono ?_
      rintro e w2 ⟨q2, cc2, rfl, hs2, hc2⟩
      obtain ⟨x0, hx0⟩ : ∃ z, z = List.replicate N false := ⟨_, rfl⟩
      obtain ⟨W0, hW0⟩ : ∃ z, z = List.replicate M16 (0 : Int) := ⟨_, rfl⟩
      have hxl : x0.length = N := by rw [hx0, List.length_replicate]
      have k2 := k1.ch0 hc2
      rw [← hx0, ← hW0] at k2
      rw [← hx0] at hs2
      have hmem := pages_Mem w2 s p g m h' _ _ k2
      have hlen0 := words_Len w2 m h' _ k2.mem
      rw [show W0.length = M16 by rw [hW0, List.length_replicate]] at hlen0
      have hcw2 := hc1.trans hc2
      clear hx0 hW0 hnew hnew2 k1 hlt1 hF1
      dsimp only
      go_wp2_with fail
      with_reducible refine hmem.mono ?_
      rintro e w3 ⟨rfl, rfl⟩
      dsimp only
      go_wp2_with fail
      with_reducible refine hmem.mono ?_
      rintro e w3 ⟨rfl, rfl⟩
      dsimp only
      go_wp2_with fail
      with_reducible refine hlen0.mono ?_
      rintro e w3 ⟨rfl, rfl⟩
      clear hmem hlen0
      dsimp only
      go_wp2_with fail
      go_loopw [9, 72] (fun v i wr => ∃ (k : Nat) (x : List Bool) (W : List Int) (q : Option Addr) (cx : Nat), k ≤ l.length ∧ i = .int .i64 k ∧ x.length = N ∧ v = .slice q N cx ∧ PagesAt wr s p g m h' x W ∧ SlR boolRp (Two g h') wr q cx x ∧ Ch No w wr) (fun _ i _ => l.length - (intOf i).toNat)
      case atStart => exact ⟨0, x0, W0, q2, cc2, by omega, rfl, hxl, rfl, k2, hs2, hcw2⟩
      case round =>
        obtain ⟨k, x, W, q, cx, hk, rfl, hx, rfl, hr, hsx, hc⟩ := hrel
        clear k2 hs2 hcw2 hxl
        have hrl := hr.lt
        have hWl := hr.len
        rw [hx, ← HM16.out] at hWl
        have hFr : ∀ (W1 : World), wr.heap.size ≤ W1.heap.size → ∀ k, Two g h' k → k < W1.heap.size := fun W1 hW k hk => by rcases hk with q | q <;> omega
        by_cases hlt : k < l.length
        · obtain ⟨b, off, rfl, _, d0, d1, d2, ik, ia, ib⟩ := (h.ch0 hc).pact_at k hlt
          obtain ⟨A, hA⟩ : ∃ A, A = l[k] := ⟨_, rfl⟩
          rw [← hA] at d0 d1 d2 ik ia ib
          clear hA h
          obtain ⟨kk, aa, bb⟩ := A
          dsimp only at d0 d1 d2 ik ia ib
          obtain ⟨wa, hwa⟩ : ∃ z, z = wr.alloc (.cells #[.int .i64 kk, .int .i64 aa, .int .i64 bb] 76) := ⟨_, rfl⟩
          have hal : Ch No wr wa := by rw [hwa]; exact (Ch.refl _ _).alloc _
          have kA : wa.heap[wr.heap.size]? = some (.cells #[.int .i64 kk, .int .i64 aa, .int .i64 bb] 76 (0, 0)) := by rw [hwa]; exact World.alloc_heap_new _ _
          have HWA := Lib.hid hwa
          have hRg : wr.heap.size ≠ g ∧ wr.heap.size ≠ h' ∧ w.heap.size ≤ wr.heap.size := by have := hc.size; omega
          have hmemA := pages_Mem wa s p g m h' _ _ (hr.ch0 hal)
          have hallA := words_All (Two g h') wa m h' _ (hr.ch0 hal).mem (hFr _ hal.size)
          rw [hWl] at hallA
          have toW : ∀ W1 W2 : World, Ch No w W1 → Ch (Two g h') W1 W2 → Ch No w W2 := fun W1 W2 h1 h2 => h1.andThen h2 (fun q hq => .inr (by rcases hq with q' | q' <;> omega))
          clear hwa
          go_wp2_with fail
          rw [← HWA.out]
          with_reducible refine hmemA.mono ?_
          rintro e w3 ⟨rfl, rfl⟩
          dsimp only
          go_wp2_with fail
          with_reducible refine hallA.mono ?_
          rintro e w3 ⟨qs, cs, rfl, hws, hc3⟩
          have hk3 := (hr.ch0 hal).ch0 hc3
          have hx3 := (hsx.ch0 hal).ch0 hc3
          have kA3 := hc3.heap kA (fun q => q)
          have hcw3 := (hc.trans hal).trans hc3
          have hsz3 : wr.heap.size ≤ w3.heap.size := by have := hal.size; have := hc3.size; omega
          have a0 := cellOf kA3 0 rfl
          have a1 := cellOf kA3 1 rfl
          have a2 := cellOf kA3 2 rfl
          clear hmemA hallA hr hsx hc hal kA hc3
          dsimp only
          by_cases hk0 : kk = 0
          · have q0 : (kk == 0) = true := by simp [hk0]
            have hgt := pages_Grant_all w3 s p g m h' x W bb hk3 ib
            have hrg := fun w4 (hs4 : SlR boolRp (Two g h') w4 q cx x) (hF4 : ∀ k, Two g h' k → k < w4.heap.size) => ref03_Grant (Two g h') w4 q cx x bb hs4 (by omega) ib hF4
            rw [hx] at hrg
            subst hk0
            go_wp2_with fail
            with_reducible refine hgt.mono ?_
            rintro e w4 ⟨at_, E, x', W', rfl, hk4, hc4, hto⟩
            have hxl5 : x'.length = N := by rw [hto.x.len, hx]
            have hx4 := hx3.ch hc4 (fun q hq => hq)
            have hw4 := hws.ch hc4 (fun q hq => hq)
            have kA4 := hc4.heap kA3 (fun q => by rcases q with q | q <;> omega)
            have a1 := cellOf kA4 1 rfl
            have a2 := cellOf kA4 2 rfl
            have hcw4 := toW _ _ hcw3 hc4
            have hsz4 : wr.heap.size ≤ w4.heap.size := by have := hc4.size; omega
            have hWlx := hWl
            have HREL := Lib.hid (grant_words (M := M16) hto (by omega))
            have HBD := Lib.hid (grant_bd hto)
            have HTO := Lib.hid hto
            clear hto hgt hk3 hx3 hws kA3 hWlx
            dsimp only
            go_wp2_with fail
            with_reducible refine (hrg w4 hx4 (hFr _ hsz4)).mono ?_
            rintro e w5 ⟨q5, c5, x5, at5, E5, rfl, hx5, hc5, hto5⟩
            obtain ⟨rfl, rfl, rfl⟩ := hto5.uniq HTO.out.x
            have hk5 := hk4.ch0 hc5
            have hw5 := hw4.ch0 hc5
            have kA5 := hc5.heap kA4 (fun q => q)
            have hcw5 := hcw4.trans hc5
            have hsz5 : wr.heap.size ≤ w5.heap.size := by have := hc5.size; omega
            have hEE : (E != E) = false := by simp
            have hAA : (at_ != at_) = false := by simp
            clear hrg hto5 hk4 hx4 hw4 kA4 hcw4 HTO a1 a2
            dsimp only
            have hfree := pages_Free w5 s p g m h' x' W' hk5
            have hcnt := fun w6 (hs6 : SlR boolRp (Two g h') w6 q5 c5 x') => ref02_Count (Two g h') w6 q5 c5 x' hs6 (by omega)
            have hlen5 := fun w6 (hk6 : PagesAt w6 s p g m h' x' W') => bits_Len w6 p g x' hk6.row
            have hcl5 : cntTo x' x'.length ≤ x'.length := popB_le _ _
            rw [hxl5] at hfree
            simp only [hxl5] at hcnt hlen5 hcl5
            obtain ⟨C, hC⟩ : ∃ z, z = cntTo x' N := ⟨_, rfl⟩
            rw [← hC] at hfree hcl5
            simp only [← hC] at hcnt
            have WC : IntKind.i64.wrap ((N : Int) - (C : Int)) = (N : Int) - (C : Int) := IntWalk.i64_in _ (by omega)
            have hWl5 := hk5.len
            rw [hxl5, ← HM16.out] at hWl5
            clear hC
            go_wp2_with fail
            with_reducible refine hfree.mono ?_
            rintro e w6 ⟨rfl, hc6⟩
            have hk6 := hk5.ch0 hc6
            have hx6 := hx5.ch0 hc6
            have hw6 := hw5.ch0 hc6
            have hcw6 := hcw5.trans hc6
            have kA6 := hc6.heap kA5 (fun q => q)
            have hsz6 : wr.heap.size ≤ w6.heap.size := by have := hc6.size; omega
            have z0 := hk6.c0
            clear hfree hk5 hx5 hw5 hcw5 kA5
            dsimp only
            go_wp2_with fail
            with_reducible refine (hcnt w6 hx6).mono ?_
            rintro e w7 ⟨rfl, rfl⟩
            dsimp only
            go_wp2_with fail
            with_reducible refine (hlen5 w6 hk6).mono ?_
            rintro e w7 ⟨rfl, rfl⟩
            dsimp only
            go_wp2_with fail
            have hmem6 := pages_Mem w6 s p g m h' _ _ hk6
            have hall6 := words_All (Two g h') w6 m h' _ hk6.mem (hFr _ hsz6)
            rw [hWl5] at hall6
            with_reducible refine hmem6.mono ?_
            rintro e w7 ⟨rfl, rfl⟩
            dsimp only
            go_wp2_with fail
            with_reducible refine hall6.mono ?_
            rintro e w7 ⟨qn, cn, rfl, hwn, hc7⟩
            have hk7 := hk6.ch0 hc7
            have hx7 := hx6.ch0 hc7
            have hw7 := hw6.ch0 hc7
            have hcw7 := hcw6.trans hc7
            have kA7 := hc7.heap kA6 (fun q => q)
            clear hmem6 hall6 hk6 hx6 hw6 hcw6 kA6 hcnt hlen5 z0
            dsimp only
            go_wp2_with fail
            go_loopw [161] (fun v wq => ∃ i : Nat, i ≤ M16 ∧ v = .int .i64 i ∧ Ch No w7 wq) (fun v _ => M16 - (intOf v).toNat)
            case atStart => exact ⟨0, by omega, rfl, Ch.refl _ _⟩
            case round =>
              obtain ⟨i, hi1, rfl, hcq⟩ := hrel
              have kAq := hcq.heap kA7 (fun q => q)
              have a0 := cellOf kAq 0 rfl
              have a2 := cellOf kAq 2 rfl
              by_cases hiM : i < M16
              · obtain ⟨bn, on, rfl, _, _, vn, _⟩ := (hwn.ch0 hcq).int_at i (by omega)
                obtain ⟨bs, os, rfl, _, _, vs, _⟩ := (hw7.ch0 hcq).int_at i (by omega)
                have hi60 : i / 16 < N := by have := HM16.out; omega
                obtain ⟨bx, ox, rfl, _, _, vx⟩ := (hx7.ch0 hcq).bool_at (i / 16) (by omega)
                have hgd : x'.getD (i / 16) false = x'[i / 16]'(by omega) := by simp [List.getD_eq_getElem?_getD, show i / 16 < x'.length by omega]
                have hgr := fun n : Nat => pages_Granted (wr.drewN n) s p g m h' x' W' ((i / 16 : Nat) : Int) ((hk7.ch0 hcq).ch0 ((Ch.refl _ _).drewN n)) (show _ ∧ _ from by omega)
                simp only [getB_nat, hgd] at hgr
                have T16 : ((i : Int)).tdiv 16 = ((i / 16 : Nat) : Int) := by rw [Int.tdiv_eq_ediv_of_nonneg (by omega)]; omega
                have Wd : IntKind.i64.wrap ((i / 16 : Nat) : Int) = ((i / 16 : Nat) : Int) := IntWalk.i64_in _ (by omega)
                have hD := HREL.out i (by omega)
                obtain ⟨vN, hvN⟩ : ∃ z, z = W'[i]'(by omega) := ⟨_, rfl⟩
                obtain ⟨vS, hvS⟩ : ∃ z, z = W[i]'(by omega) := ⟨_, rfl⟩
                obtain ⟨vX, hvX⟩ : ∃ z, z = x'[i / 16]'(by omega) := ⟨_, rfl⟩
                obtain ⟨D, hDd⟩ : ∃ z, z = i / 16 := ⟨_, rfl⟩
                have hgetN : W'.getD i 0 = vN := by rw [hvN]; simp [List.getD_eq_getElem?_getD, show i < W'.length by omega]
                have hgetS : W.getD i 0 = vS := by rw [hvS]; simp [List.getD_eq_getElem?_getD, show i < W.length by omega]
                rw [hgetN, hgetS] at hD
                rw [← hvN] at vn
                rw [← hvS] at vs
                rw [← hDd] at hi60
                rw [← hvX] at vx
                simp only [← hvX] at hgr
                rw [← hDd] at vx T16 Wd
                simp only [← hDd] at hgr
                have T17 : (i : Int) / 16 = (D : Int) := by omega
                have hXX : (vX != vX) = false := by simp
                have HDD := Lib.hid hDd
                clear hvN hvS hvX hgetN hgetS hgd hDd
                by_cases hE : E = 0
                · have bE : (E == 0) = true := by simp [hE]
                  obtain ⟨h1, h2, h3⟩ := HBD.out hE
                  rw [hx] at h3
                  have WA : IntKind.i64.wrap (at_ + bb) = at_ + bb := IntWalk.i64_in _ (by omega)
                  have hDD := HDD.out
                  by_cases g1 : at_ ≤ (D : Int)
                  · have t1 : decide ((D : Int) ≥ at_) = true := decide_eq_true g1
                    by_cases g2 : (D : Int) < at_ + bb
                    · have t2 : decide ((D : Int) < at_ + bb) = true := decide_eq_true g2
                      rw [if_pos ⟨hE, by omega, by omega⟩] at hD
                      clear hE g1 g2 h1 h2 h3 hDD
                      have hD2 : vN = 0 := hD
                      subst hD2
                      clear hD
                      go_wp2_with fail
                      go_quiet (first | (go_at_call 53; with_reducible exact quiet_eqP (hgr _)))
                      go_wp2_with fail
                      go_roundw
                      case rel => exact ⟨i + 1, by omega, by go_num, hcq.drewN _⟩
                      case measure => exact meas_lt (by omega)
                    · have t2 : decide ((D : Int) < at_ + bb) = false := decide_eq_false g2
                      rw [if_neg (by omega)] at hD
                      clear hE g1 g2 h1 h2 h3 hDD
                      have hD2 : vN = vS := hD
                      subst hD2
                      have hWW : (vN != vN) = false := by simp
                      go_wp2_with fail
                      go_quiet (first | (go_at_call 53; with_reducible exact quiet_eqP (hgr _)))
                      go_wp2_with fail
                      go_roundw
                      case rel => exact ⟨i + 1, by omega, by go_num, hcq.drewN _⟩
                      case measure => exact meas_lt (by omega)
                  · have t1 : decide ((D : Int) ≥ at_) = false := decide_eq_false g1
                    rw [if_neg (by omega)] at hD
                    clear hE g1 h1 h2 h3 hDD
                    have hD2 : vN = vS := hD
                    subst hD2
                    have hWW : (vN != vN) = false := by simp
                    go_wp2_with fail
                    go_quiet (first | (go_at_call 53; with_reducible exact quiet_eqP (hgr _)))
                    go_wp2_with fail
                    go_roundw
                    case rel => exact ⟨i + 1, by omega, by go_num, hcq.drewN _⟩
                    case measure => exact meas_lt (by omega)
                · have bE : (E == 0) = false := by simp [hE]
                  rw [if_neg (fun q => hE q.1)] at hD
                  clear hE
                  have hD2 : vN = vS := hD
                  subst hD2
                  have hWW : (vN != vN) = false := by simp
                  go_wp2_with fail
                  go_quiet (first | (go_at_call 53; with_reducible exact quiet_eqP (hgr _)))
                  go_wp2_with fail
                  go_roundw
                  case rel => exact ⟨i + 1, by omega, by go_num, hcq.drewN _⟩
                  case measure => exact meas_lt (by omega)
              · obtain rfl : i = M16 := by omega
                go_wp2_with fail
                go_roundw
                case rel => exact ⟨k + 1, x', W', q5, c5, by omega, by go_num, hxl5, rfl, hk7.ch0 hcq, hx7.ch0 hcq, hcw7.trans hcq⟩
                case measure => exact meas_lt (by omega)
          · have q0 : (kk == 0) = false := by simp [hk0]
            by_cases hk1 : kk = 1
            · have q1 : (kk == 1) = true := by simp [hk1]
              have hbk := pages_Back w3 s p g m h' x W aa bb hk3 ia ib
              have hrb := fun w4 (hs4 : SlR boolRp (Two g h') w4 q cx x) (hF4 : ∀ k, Two g h' k → k < w4.heap.size) => ref03_Back (Two g h') w4 q cx x aa bb hs4 (by omega) ia ib hF4
              rw [hx] at hrb
              subst hk1
              go_wp2_with fail
              with_reducible refine hbk.mono ?_
              rintro e w4 ⟨E, x', rfl, hk4, hc4, hto⟩
              have hxl5 : x'.length = N := by rw [hto.len, hx]
              have hx4 := hx3.ch hc4 (fun q hq => .inl hq)
              have hw4 := hws.ch hc4 (fun q hq => .inl hq)
              have kA4 := hc4.heap kA3 (fun q => hRg.1 q)
              have a1 := cellOf kA4 1 rfl
              have a2 := cellOf kA4 2 rfl
              have hcw4 := toW _ _ hcw3 (hc4.mono fun q hq => .inl hq)
              have hsz4 : wr.heap.size ≤ w4.heap.size := by have := hc4.size; omega
              have HTO := Lib.hid hto
              clear hto hbk hk3 hx3 hws kA3
              dsimp only
              go_wp2_with fail
              with_reducible refine (hrb w4 hx4 (hFr _ hsz4)).mono ?_
              rintro e w5 ⟨q5, c5, x5, E5, rfl, hx5, hc5, hto5⟩
              obtain ⟨rfl, rfl⟩ := hto5.uniq HTO.out
              have hk5 := hk4.ch0 hc5
              have hw5 := hw4.ch0 hc5
              have kA5 := hc5.heap kA4 (fun q => q)
              have hcw5 := hcw4.trans hc5
              have hsz5 : wr.heap.size ≤ w5.heap.size := by have := hc5.size; omega
              have hEE : (E != E) = false := by simp
              clear hrb hto5 hk4 hx4 hw4 kA4 hcw4 HTO a1 a2
              dsimp only
              obtain ⟨W', hW'⟩ : ∃ z, z = W := ⟨_, rfl⟩
              rw [← hW'] at hk5
              have HREL := Lib.hid (show ∀ i, i < M16 → W'.getD i 0 = W.getD i 0 from fun i _ => by rw [hW'])
              clear hW'
              have hfree := pages_Free w5 s p g m h' x' W' hk5
              have hcnt := fun w6 (hs6 : SlR boolRp (Two g h') w6 q5 c5 x') => ref02_Count (Two g h') w6 q5 c5 x' hs6 (by omega)
              have hlen5 := fun w6 (hk6 : PagesAt w6 s p g m h' x' W') => bits_Len w6 p g x' hk6.row
              have hcl5 : cntTo x' x'.length ≤ x'.length := popB_le _ _
              rw [hxl5] at hfree
              simp only [hxl5] at hcnt hlen5 hcl5
              obtain ⟨C, hC⟩ : ∃ z, z = cntTo x' N := ⟨_, rfl⟩
              rw [← hC] at hfree hcl5
              simp only [← hC] at hcnt
              have WC : IntKind.i64.wrap ((N : Int) - (C : Int)) = (N : Int) - (C : Int) := IntWalk.i64_in _ (by omega)
              have hWl5 := hk5.len
              rw [hxl5, ← HM16.out] at hWl5
              clear hC
              go_wp2_with fail
              with_reducible refine hfree.mono ?_
              rintro e w6 ⟨rfl, hc6⟩
              have hk6 := hk5.ch0 hc6
              have hx6 := hx5.ch0 hc6
              have hw6 := hw5.ch0 hc6
              have hcw6 := hcw5.trans hc6
              have kA6 := hc6.heap kA5 (fun q => q)
              have hsz6 : wr.heap.size ≤ w6.heap.size := by have := hc6.size; omega
              have z0 := hk6.c0
              clear hfree hk5 hx5 hw5 hcw5 kA5
              dsimp only
              go_wp2_with fail
              with_reducible refine (hcnt w6 hx6).mono ?_
              rintro e w7 ⟨rfl, rfl⟩
              dsimp only
              go_wp2_with fail
              with_reducible refine (hlen5 w6 hk6).mono ?_
              rintro e w7 ⟨rfl, rfl⟩
              dsimp only
              go_wp2_with fail
              have hmem6 := pages_Mem w6 s p g m h' _ _ hk6
              have hall6 := words_All (Two g h') w6 m h' _ hk6.mem (hFr _ hsz6)
              rw [hWl5] at hall6
              with_reducible refine hmem6.mono ?_
              rintro e w7 ⟨rfl, rfl⟩
              dsimp only
              go_wp2_with fail
              with_reducible refine hall6.mono ?_
              rintro e w7 ⟨qn, cn, rfl, hwn, hc7⟩
              have hk7 := hk6.ch0 hc7
              have hx7 := hx6.ch0 hc7
              have hw7 := hw6.ch0 hc7
              have hcw7 := hcw6.trans hc7
              have kA7 := hc7.heap kA6 (fun q => q)
              clear hmem6 hall6 hk6 hx6 hw6 hcw6 kA6 hcnt hlen5 z0
              dsimp only
              go_wp2_with fail
              go_loopw [161] (fun v wq => ∃ i : Nat, i ≤ M16 ∧ v = .int .i64 i ∧ Ch No w7 wq) (fun v _ => M16 - (intOf v).toNat)
              case atStart => exact ⟨0, by omega, rfl, Ch.refl _ _⟩
              case round =>
                obtain ⟨i, hi1, rfl, hcq⟩ := hrel
                have kAq := hcq.heap kA7 (fun q => q)
                have a0 := cellOf kAq 0 rfl
                have a2 := cellOf kAq 2 rfl
                by_cases hiM : i < M16
                · obtain ⟨bn, on, rfl, _, _, vn, _⟩ := (hwn.ch0 hcq).int_at i (by omega)
                  obtain ⟨bs, os, rfl, _, _, vs, _⟩ := (hw7.ch0 hcq).int_at i (by omega)
                  have hi60 : i / 16 < N := by have := HM16.out; omega
                  obtain ⟨bx, ox, rfl, _, _, vx⟩ := (hx7.ch0 hcq).bool_at (i / 16) (by omega)
                  have hgd : x'.getD (i / 16) false = x'[i / 16]'(by omega) := by simp [List.getD_eq_getElem?_getD, show i / 16 < x'.length by omega]
                  have hgr := fun n : Nat => pages_Granted (wr.drewN n) s p g m h' x' W' ((i / 16 : Nat) : Int) ((hk7.ch0 hcq).ch0 ((Ch.refl _ _).drewN n)) (show _ ∧ _ from by omega)
                  simp only [getB_nat, hgd] at hgr
                  have T16 : ((i : Int)).tdiv 16 = ((i / 16 : Nat) : Int) := by rw [Int.tdiv_eq_ediv_of_nonneg (by omega)]; omega
                  have Wd : IntKind.i64.wrap ((i / 16 : Nat) : Int) = ((i / 16 : Nat) : Int) := IntWalk.i64_in _ (by omega)
                  have hD := HREL.out i (by omega)
                  obtain ⟨vN, hvN⟩ : ∃ z, z = W'[i]'(by omega) := ⟨_, rfl⟩
                  obtain ⟨vS, hvS⟩ : ∃ z, z = W[i]'(by omega) := ⟨_, rfl⟩
                  obtain ⟨vX, hvX⟩ : ∃ z, z = x'[i / 16]'(by omega) := ⟨_, rfl⟩
                  obtain ⟨D, hDd⟩ : ∃ z, z = i / 16 := ⟨_, rfl⟩
                  have hgetN : W'.getD i 0 = vN := by rw [hvN]; simp [List.getD_eq_getElem?_getD, show i < W'.length by omega]
                  have hgetS : W.getD i 0 = vS := by rw [hvS]; simp [List.getD_eq_getElem?_getD, show i < W.length by omega]
                  rw [hgetN, hgetS] at hD
                  rw [← hvN] at vn
                  rw [← hvS] at vs
                  rw [← hDd] at hi60
                  rw [← hvX] at vx
                  simp only [← hvX] at hgr
                  rw [← hDd] at vx T16 Wd
                  simp only [← hDd] at hgr
                  have T17 : (i : Int) / 16 = (D : Int) := by omega
                  have hXX : (vX != vX) = false := by simp
                  have HDD := Lib.hid hDd
                  clear hvN hvS hvX hgetN hgetS hgd hDd
                  have hD2 : vN = vS := hD
                  subst hD2
                  have hWW : (vN != vN) = false := by simp
                  go_wp2_with fail
                  go_quiet (first | (go_at_call 53; with_reducible exact quiet_eqP (hgr _)))
                  go_wp2_with fail
                  go_roundw
                  case rel => exact ⟨i + 1, by omega, by go_num, hcq.drewN _⟩
                  case measure => exact meas_lt (by omega)
                · obtain rfl : i = M16 := by omega
                  go_wp2_with fail
                  go_roundw
                  case rel => exact ⟨k + 1, x', W', q5, c5, by omega, by go_num, hxl5, rfl, hk7.ch0 hcq, hx7.ch0 hcq, hcw7.trans hcq⟩
                  case measure => exact meas_lt (by omega)
            · have q1 : (kk == 1) = false := by simp [hk1]
              by_cases hk2 : kk = 2
              · subst hk2
                have hH0 : HeldW w wr.heap.size 2 aa bb s p g m h' x q cx w3 := ⟨⟨W, hk3⟩, hx3, kA3, hcw3⟩
                go_wp2_with fail
                clear hk3 hx3 hws kA3 hcw3 a0 a1 a2
                refine wp_region_held_drew (S := (fun w' : World => w'.cell? ⟨wr.heap.size, 1, none⟩ = some (.int .i64 aa) ∧ HeldW w wr.heap.size 2 aa bb s p g m h' x q cx w')) (by kernel_rfl) (HeldW.full (hH0.ch0 (Ch.refl _ _).drew)) (fun hHeld => ?_)
                refine wpAnyH_take (i := 0) (v := ?_) (by simp only [List.getElem?_toArray, List.getElem?_cons_zero, List.getElem?_cons_succ]; exact rfl) (by kernel_rfl) (by kernel_rfl) (by kernel_rfl) (by intro _ _ _ h; exact h) (Or.inl ⟨by rfl, ?_⟩) (by assumption) ?_
                rotate_left
                · intro w hSw
                  (try dsimp only at hSw)
                  go_simp
                  try (with_reducible rfl)
                try simp only [Act.put, List.setIfInBounds_toArray, List.set_cons_zero, List.set_cons_succ]
                refine wpAnyH_take (i := 2) (v := ?_) (by simp only [List.getElem?_toArray, List.getElem?_cons_zero, List.getElem?_cons_succ]; exact rfl) (by kernel_rfl) (by kernel_rfl) (by kernel_rfl) (by intro _ _ _ h; exact h) (Or.inl ⟨by rfl, ?_⟩) (by assumption) ?_
                rotate_left
                · intro w hSw
                  (try dsimp only at hSw)
                  go_simp
                  try (with_reducible rfl)
                try simp only [Act.put, List.setIfInBounds_toArray, List.set_cons_zero, List.set_cons_succ]
                refine wpAnyH_take (i := 3) (v := ?_) (by simp only [List.getElem?_toArray, List.getElem?_cons_zero, List.getElem?_cons_succ]; exact rfl) (by kernel_rfl) (by kernel_rfl) (by kernel_rfl) (by intro _ _ _ h; exact h) (Or.inl ⟨by rfl, ?_⟩) (by assumption) ?_
                rotate_left
                · intro w hSw
                  (try dsimp only at hSw)
                  go_simp
                  try (with_reducible rfl)
                try simp only [Act.put, List.setIfInBounds_toArray, List.set_cons_zero, List.set_cons_succ]
                refine wpAnyH_ready (rs := [1]) (by kernel_rfl) (by simp) ?_
                refine AllReadyH.cons (by simp only [List.getElem?_toArray, List.getElem?_cons_zero, List.getElem?_cons_succ]; exact rfl) (fun K hK => ?_) AllReadyH.nil
                go_simp
                (go_at_call 47; with_reducible refine (held_Mem (And.right (by assumption))).mono ?_; rintro e w9 ⟨rfl, rfl⟩; (try dsimp only))
                try go_wp2_with fail
                refine hK.out _ _ ?_ (fun hHeld => ?_)
                · try dsimp only
                  first | assumption | exact HeldW.full (by assumption) | fail
                clear hK K
                try simp only [Act.put, List.setIfInBounds_toArray, List.set_cons_zero, List.set_cons_succ]
                refine wpAnyH_ready (rs := [4]) (by kernel_rfl) (by simp) ?_
                refine AllReadyH.cons (by simp only [List.getElem?_toArray, List.getElem?_cons_zero, List.getElem?_cons_succ]; exact rfl) (fun K hK => ?_) AllReadyH.nil
                go_simp
                (go_at_call 52; with_reducible refine (held_Write (And.right (by assumption)) hRg.2.1 hh ia).mono ?_; rintro e w9 ⟨⟨u9, rfl⟩, hH9⟩; (try dsimp only))
                try go_wp2_with fail
                refine hK.out _ _ ?_ (fun hHeld => ?_)
                · try dsimp only
                  first | assumption | exact HeldW.full (by assumption) | fail
                clear hK K
                try simp only [Act.put, List.setIfInBounds_toArray, List.set_cons_zero, List.set_cons_succ]
                refine wpAnyH_done (by kernel_rfl) ?_ _
                go_wp2_with fail
                have hE : HeldW w wr.heap.size 2 aa bb s p g m h' x q cx _ := And.right (by assumption)
                obtain ⟨V, hV⟩ := hE.pg
                go_roundw
                case rel => exact ⟨k + 1, x, V, q, cx, by omega, by go_num, hx, rfl, hV, hE.sl, hE.ch⟩
                case measure => exact meas_lt (by omega)
              · have q2' : (kk == 2) = false := by simp [hk2]
                have hk5 := hk3
                have hx5 := hx3
                have hw5 := hws
                have kA5 := kA3
                have hcw5 := hcw3
                clear hk3 hx3 hws kA3 hcw3 a0 a1 a2
                have a0 := cellOf kA5 0 rfl
                obtain ⟨W', hW'⟩ : ∃ z, z = W := ⟨_, rfl⟩
                rw [← hW'] at hk5
                have HREL := Lib.hid (show ∀ i, i < M16 → W'.getD i 0 = W.getD i 0 from fun i _ => by rw [hW'])
                clear hW'
                have hfree := pages_Free w3 s p g m h' x W' hk5
                have hcnt := fun w6 (hs6 : SlR boolRp (Two g h') w6 q cx x) => ref02_Count (Two g h') w6 q cx x hs6 (by omega)
                have hlen5 := fun w6 (hk6 : PagesAt w6 s p g m h' x W') => bits_Len w6 p g x hk6.row
                have hcl5 : cntTo x x.length ≤ x.length := popB_le _ _
                rw [hx] at hfree
                simp only [hx] at hcnt hlen5 hcl5
                obtain ⟨C, hC⟩ : ∃ z, z = cntTo x N := ⟨_, rfl⟩
                rw [← hC] at hfree hcl5
                simp only [← hC] at hcnt
                have WC : IntKind.i64.wrap ((N : Int) - (C : Int)) = (N : Int) - (C : Int) := IntWalk.i64_in _ (by omega)
                have hWl5 := hk5.len
                rw [hx, ← HM16.out] at hWl5
                clear hC
                go_wp2_with fail
                with_reducible refine hfree.mono ?_
                rintro e w6 ⟨rfl, hc6⟩
                have hk6 := hk5.ch0 hc6
                have hx6 := hx5.ch0 hc6
                have hw6 := hw5.ch0 hc6
                have hcw6 := hcw5.trans hc6
                have kA6 := hc6.heap kA5 (fun q => q)
                have hsz6 : wr.heap.size ≤ w6.heap.size := by have := hc6.size; omega
                have z0 := hk6.c0
                clear hfree hk5 hx5 hw5 hcw5 kA5
                dsimp only
                go_wp2_with fail
                with_reducible refine (hcnt w6 hx6).mono ?_
                rintro e w7 ⟨rfl, rfl⟩
                dsimp only
                go_wp2_with fail
                with_reducible refine (hlen5 w6 hk6).mono ?_
                rintro e w7 ⟨rfl, rfl⟩
                dsimp only
                go_wp2_with fail
                have hmem6 := pages_Mem w6 s p g m h' _ _ hk6
                have hall6 := words_All (Two g h') w6 m h' _ hk6.mem (hFr _ hsz6)
                rw [hWl5] at hall6
                with_reducible refine hmem6.mono ?_
                rintro e w7 ⟨rfl, rfl⟩
                dsimp only
                go_wp2_with fail
                with_reducible refine hall6.mono ?_
                rintro e w7 ⟨qn, cn, rfl, hwn, hc7⟩
                have hk7 := hk6.ch0 hc7
                have hx7 := hx6.ch0 hc7
                have hw7 := hw6.ch0 hc7
                have hcw7 := hcw6.trans hc7
                have kA7 := hc7.heap kA6 (fun q => q)
                clear hmem6 hall6 hk6 hx6 hw6 hcw6 kA6 hcnt hlen5 z0
                dsimp only
                go_wp2_with fail
                go_loopw [161] (fun v wq => ∃ i : Nat, i ≤ M16 ∧ v = .int .i64 i ∧ Ch No w7 wq) (fun v _ => M16 - (intOf v).toNat)
                case atStart => exact ⟨0, by omega, rfl, Ch.refl _ _⟩
                case round =>
                  obtain ⟨i, hi1, rfl, hcq⟩ := hrel
                  have kAq := hcq.heap kA7 (fun q => q)
                  have a0 := cellOf kAq 0 rfl
                  have a2 := cellOf kAq 2 rfl
                  by_cases hiM : i < M16
                  · obtain ⟨bn, on, rfl, _, _, vn, _⟩ := (hwn.ch0 hcq).int_at i (by omega)
                    obtain ⟨bs, os, rfl, _, _, vs, _⟩ := (hw7.ch0 hcq).int_at i (by omega)
                    have hi60 : i / 16 < N := by have := HM16.out; omega
                    obtain ⟨bx, ox, rfl, _, _, vx⟩ := (hx7.ch0 hcq).bool_at (i / 16) (by omega)
                    have hgd : x.getD (i / 16) false = x[i / 16]'(by omega) := by simp [List.getD_eq_getElem?_getD, show i / 16 < x.length by omega]
                    have hgr := fun n : Nat => pages_Granted (wr.drewN n) s p g m h' x W' ((i / 16 : Nat) : Int) ((hk7.ch0 hcq).ch0 ((Ch.refl _ _).drewN n)) (show _ ∧ _ from by omega)
                    simp only [getB_nat, hgd] at hgr
                    have T16 : ((i : Int)).tdiv 16 = ((i / 16 : Nat) : Int) := by rw [Int.tdiv_eq_ediv_of_nonneg (by omega)]; omega
                    have Wd : IntKind.i64.wrap ((i / 16 : Nat) : Int) = ((i / 16 : Nat) : Int) := IntWalk.i64_in _ (by omega)
                    have hD := HREL.out i (by omega)
                    obtain ⟨vN, hvN⟩ : ∃ z, z = W'[i]'(by omega) := ⟨_, rfl⟩
                    obtain ⟨vS, hvS⟩ : ∃ z, z = W[i]'(by omega) := ⟨_, rfl⟩
                    obtain ⟨vX, hvX⟩ : ∃ z, z = x[i / 16]'(by omega) := ⟨_, rfl⟩
                    obtain ⟨D, hDd⟩ : ∃ z, z = i / 16 := ⟨_, rfl⟩
                    have hgetN : W'.getD i 0 = vN := by rw [hvN]; simp [List.getD_eq_getElem?_getD, show i < W'.length by omega]
                    have hgetS : W.getD i 0 = vS := by rw [hvS]; simp [List.getD_eq_getElem?_getD, show i < W.length by omega]
                    rw [hgetN, hgetS] at hD
                    rw [← hvN] at vn
                    rw [← hvS] at vs
                    rw [← hDd] at hi60
                    rw [← hvX] at vx
                    simp only [← hvX] at hgr
                    rw [← hDd] at vx T16 Wd
                    simp only [← hDd] at hgr
                    have T17 : (i : Int) / 16 = (D : Int) := by omega
                    have hXX : (vX != vX) = false := by simp
                    have HDD := Lib.hid hDd
                    clear hvN hvS hvX hgetN hgetS hgd hDd
                    have hD2 : vN = vS := hD
                    subst hD2
                    have hWW : (vN != vN) = false := by simp
                    go_wp2_with fail
                    go_quiet (first | (go_at_call 53; with_reducible exact quiet_eqP (hgr _)))
                    go_wp2_with fail
                    go_roundw
                    case rel => exact ⟨i + 1, by omega, by go_num, hcq.drewN _⟩
                    case measure => exact meas_lt (by omega)
                  · obtain rfl : i = M16 := by omega
                    go_wp2_with fail
                    go_roundw
                    case rel => exact ⟨k + 1, x, W', q, cx, by omega, by go_num, hx, rfl, hk7.ch0 hcq, hx7.ch0 hcq, hcw7.trans hcq⟩
                    case measure => exact meas_lt (by omega)
        · obtain rfl : k = l.length := by omega
          clear h
          have hfi := ref02_FindI (Two g h') wr q cx x many hsx (by omega) hm
          rw [hx] at hfi
          have hft := fun W1 (hk : PagesAt W1 s p g m h' x W) => pages_Fits W1 s p g m h' x W many hk hm
          have hg1 := fun W1 (hk : PagesAt W1 s p g m h' x W) => pages_Granted W1 s p g m h' x W (-1) hk (show _ ∧ _ from by omega)
          have hg2 := fun W1 (hk : PagesAt W1 s p g m h' x W) => pages_Granted W1 s p g m h' x W (N : Int) hk (show _ ∧ _ from by omega)
          rw [show getB x (-1) = false by unfold getB; rw [decide_eq_false (by omega)]; rfl] at hg1
          rw [getB_nat, getD_out x N (by omega)] at hg2
          go_wp2_with fail
          with_reducible refine hfi.mono ?_
          rintro e w5 ⟨r, rfl, hr1, hc5⟩
          rw [optP_eq]
          obtain ⟨sB, hsB⟩ : ∃ z, z = r.isSome := ⟨_, rfl⟩
          obtain ⟨sN, hsN⟩ : ∃ z, z = optP r := ⟨_, rfl⟩
          rw [← hsB, ← hsN]
          have HR1 := Lib.hid hr1
          have HSB := Lib.hid hsB
          have hBB : (sB == sB) = true := by simp
          clear hr1 hsB hsN hfi
          dsimp only
          go_wp2_with fail
          with_reducible refine (fixed03 w5).mono ?_
          rintro e w6 ⟨rfl, hc6⟩
          have hk6 := (hr.ch0 hc5).ch0 hc6
          dsimp only
          go_wp2_with fail
          with_reducible refine (hft _ hk6).mono ?_
          rintro e w7 ⟨r', rfl, hr2, rfl⟩
          rw [show r'.isSome = sB by rw [hr2.uniq HR1.out, HSB.out]]
          clear hr2
          dsimp only
          go_wp2_with fail
          with_reducible refine (hg1 _ hk6).mono ?_
          rintro e w7 ⟨rfl, rfl⟩
          dsimp only
          go_wp2_with fail
          with_reducible refine (hg2 _ hk6).mono ?_
          rintro e w7 ⟨rfl, rfl⟩
          dsimp only
          go_wp2_with fail
          go_ret
          exact ⟨rfl, (hc.trans hc5).trans hc6⟩
end Go.Proofs.Ytpldogmamifdpaa

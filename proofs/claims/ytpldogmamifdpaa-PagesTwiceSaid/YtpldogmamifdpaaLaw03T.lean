/- The law PagesTwice: the walk. -/
import Derived.Test.YtpldogmamifdpaaLaw03
set_option linter.unusedVariables false
set_option linter.unusedSimpArgs false
namespace Go.Proofs.Ytpldogmamifdpaa
open Go Go.RowKit

set_option maxRecDepth 100000 in
set_option maxHeartbeats 16000000 in
theorem twice03 (w : World) (n : Int) (a : Option Addr) (c : Nat) (l : List PAct) (many : Int) (h : SlR pactRp No w a c l) (hn : 0 ≤ n ∧ n ≤ 255) (hm : 0 ≤ many ∧ many ≤ 255) (hl : l.length ≤ 9223372036854775807) :
    Calls Try.prog 9 #[.int .u8 n, .slice a l.length c, .int .u8 many] w fun e w' => e = .returned (.bool true) ∧ Ch No w w' := by
  by_cases hcut : 60 < l.length
  · have b3 : decide ((l.length : Int) > 60) = true := decide_eq_true (by omega)
    go_enter Try.func9, Try.ntmps9
    go_wp2_with fail
    with_reducible refine (fixed03 _).mono ?_
    rintro e w1 ⟨rfl, hc⟩
    dsimp only
    go_wp2_with fail
    go_ret
    exact ⟨rfl, hc⟩
  · have b3 : decide ((l.length : Int) > 60) = false := decide_eq_false (by omega)
    have hl60 : l.length ≤ 60 := by omega
    clear hcut hl
    obtain ⟨N, hN⟩ : ∃ N : Nat, N = (1 + n % 60).toNat := ⟨_, rfl⟩
    have hN1 : 1 ≤ N ∧ N ≤ 60 := by omega
    have e1 : IntKind.i64.wrap n = n := IntWalk.i64_in _ (by omega)
    have e2 : n.tmod 60 = n % 60 := Int.tmod_eq_emod_of_nonneg hn.1
    have e3 : IntKind.i64.wrap (n % 60) = n % 60 := IntWalk.i64_in _ (by omega)
    have e4 : IntKind.i64.wrap (1 + n % 60) = (N : Int) := by rw [IntWalk.i64_in _ (by omega)]; omega
    obtain ⟨K, hK⟩ : ∃ K : Nat, K = (1 + many % 8).toNat := ⟨_, rfl⟩
    have hK1 : 1 ≤ K ∧ K ≤ 8 := by omega
    have f1 : IntKind.i64.wrap many = many := IntWalk.i64_in _ (by omega)
    have f2 : many.tmod 8 = many % 8 := Int.tmod_eq_emod_of_nonneg hm.1
    have f3 : IntKind.i64.wrap (many % 8) = many % 8 := IntWalk.i64_in _ (by omega)
    have f4 : IntKind.i64.wrap (1 + many % 8) = (K : Int) := by rw [IntWalk.i64_in _ (by omega)]; omega
    obtain ⟨q60, hq60⟩ : ∃ z, z = n % 60 := ⟨_, rfl⟩
    obtain ⟨q8, hq8⟩ : ∃ z, z = many % 8 := ⟨_, rfl⟩
    rw [← hq60] at e2 e3 e4
    rw [← hq8] at f2 f3 f4
    clear hN hK hq60 hq8
    have hnew := pages_New w N hN1.1 (by omega)
    go_enter Try.func9, Try.ntmps9
    go_wp2_with fail
    with_reducible refine hnew.mono ?_
    rintro e w1 ⟨s, p, g, m, h', rfl, k1, hs, hp, hg, hmm, hh, hc1⟩
    have o1 := OwnsB.nil N
    obtain ⟨x0, hx0⟩ : ∃ z, z = List.replicate N false := ⟨_, rfl⟩
    obtain ⟨W0, hW0⟩ : ∃ z, z = List.replicate (16 * N) (0 : Int) := ⟨_, rfl⟩
    have hxl : x0.length = N := by rw [hx0, List.length_replicate]
    rw [← hx0, ← hW0] at k1
    rw [← hx0] at o1
    clear hx0 hW0 hnew e1 e2 e3 e4
    dsimp only
    go_wp2_with fail
    have hma := MapAt.new w1
    have hal : Ch No w1 (w1.alloc (.map #[] 0)) := (Ch.refl _ _).alloc _
    have k2 := k1.ch0 hal
    have hc2 := hc1.trans hal
    have hlt1 := k1.lt
    obtain ⟨o, ho⟩ : ∃ z, z = w1.heap.size := ⟨_, rfl⟩
    have hos : w.heap.size ≤ o := by have := hc1.size; omega
    have hos2 : s ≠ o ∧ p ≠ o ∧ g ≠ o ∧ m ≠ o ∧ h' ≠ o := by omega
    rw [← ho] at hma ⊢
    obtain ⟨w2, hw2⟩ : ∃ z, z = w1.alloc (.map #[] 0) := ⟨_, rfl⟩
    rw [← hw2] at hma k2 hc2 ⊢
    clear hw2 ho hal k1 hc1 hlt1
    go_loopw [43] (fun i wr => ∃ (k : Nat) (x : List Bool) (W : List Int) (al : AL), k ≤ l.length ∧ i = .int .i64 k ∧ x.length = N ∧ PagesAt wr s p g m h' x W ∧ MapAt wr o al ∧ OwnsB al x ∧ Ch No w wr) (fun i _ => l.length - (intOf i).toNat)
    case atStart => exact ⟨0, x0, W0, [], by omega, rfl, hxl, k2, hma, o1, hc2⟩
    case round =>
      obtain ⟨k, x, W, al, hk, rfl, hx, hr, hmp, how, hc⟩ := hrel
      clear k2 hma hc2 hxl o1
      have hrl := hr.lt
      have hml := hmp.lt
      have toW : ∀ W1 W2 : World, Ch No w W1 → Ch (Two g h') W1 W2 → Ch No w W2 := fun W1 W2 h1 h2 => h1.andThen h2 (fun q hq => .inr (by rcases hq with q' | q' <;> omega))
      have toG : ∀ W1 W2 : World, Ch No w W1 → Ch (One g) W1 W2 → Ch No w W2 := fun W1 W2 h1 h2 => h1.andThen h2 (fun q hq => .inr (by have : q = g := hq; omega))
      have toO : ∀ W1 W2 : World, Ch No w W1 → Ch (One o) W1 W2 → Ch No w W2 := fun W1 W2 h1 h2 => h1.andThen h2 (fun q hq => .inr (by have : q = o := hq; omega))
      have hnO : ∀ (W1 W2 : World) (X : List Bool) (V : List Int), PagesAt W1 s p g m h' X V → Ch (One o) W1 W2 → PagesAt W2 s p g m h' X V := fun W1 W2 X V h1 h2 => h1.ch h2 hos2.1 hos2.2.1 hos2.2.2.1 hos2.2.2.2.1 hos2.2.2.2.2
      have hnT : ∀ (W1 W2 : World) (al : AL), MapAt W1 o al → Ch (Two g h') W1 W2 → MapAt W2 o al := fun W1 W2 al h1 h2 => h1.ch h2 (fun q => by rcases q with q | q <;> omega)
      have hnG : ∀ (W1 W2 : World) (al : AL), MapAt W1 o al → Ch (One g) W1 W2 → MapAt W2 o al := fun W1 W2 al h1 h2 => h1.ch h2 (fun q => by have : o = g := q; omega)
      by_cases hlt : k < l.length
      · obtain ⟨b, off, rfl, _, d0, d1, d2, ik, ia, ib⟩ := (h.ch0 hc).pact_at k hlt
        obtain ⟨A, hA⟩ : ∃ A, A = l[k] := ⟨_, rfl⟩
        rw [← hA] at d0 d1 d2 ik ia ib
        clear hA h
        obtain ⟨kk, aa, bb⟩ := A
        dsimp only at d0 d1 d2 ik ia ib
        have hal : Ch No wr (wr.alloc (.cells #[.int .i64 kk, .int .i64 aa, .int .i64 bb] 76)) := (Ch.refl _ _).alloc _
        have kA : (wr.alloc (.cells #[.int .i64 kk, .int .i64 aa, .int .i64 bb] 76)).heap[wr.heap.size]? = some (.cells #[.int .i64 kk, .int .i64 aa, .int .i64 bb] 76 (0, 0)) := World.alloc_heap_new _ _
        obtain ⟨wa, hwa⟩ : ∃ z, z = wr.alloc (.cells #[.int .i64 kk, .int .i64 aa, .int .i64 bb] 76) := ⟨_, rfl⟩
        have hra := hr.ch0 (hwa ▸ hal)
        have hma := hmp.ch0 (hwa ▸ hal)
        have hca := hc.trans (hwa ▸ hal)
        rw [← hwa] at kA
        have a0 : wa.cell? ⟨wr.heap.size, 0, none⟩ = some (.int .i64 kk) := cellOf kA 0 rfl
        have a1 : wa.cell? ⟨wr.heap.size, 1, none⟩ = some (.int .i64 aa) := cellOf kA 1 rfl
        have a2 : wa.cell? ⟨wr.heap.size, 2, none⟩ = some (.int .i64 bb) := cellOf kA 2 rfl
        have hRo : wr.heap.size ≠ o ∧ wr.heap.size ≠ g ∧ wr.heap.size ≠ h' ∧ w.heap.size ≤ wr.heap.size := by have := hc.size; omega
        have HWA := Lib.hid hwa
        have ib' := ib.bd
        have ia' := ia.bd
        by_cases hk0 : kk = 0
        · have q0 : (kk == 0) = true := by simp [hk0]
          have hgr := pages_Grant_all wa s p g m h' x W bb hra ib
          subst hk0
          clear hwa
          go_wp2_with fail
          rw [← HWA.out]
          with_reducible refine hgr.mono ?_
          rintro e w3 ⟨at_, E, x', W', rfl, hk3, hc3, hto⟩
          have kA3 := hc3.heap kA (fun q => by rcases q with q | q <;> omega)
          have a0 := cellOf kA3 0 rfl
          have a1 := cellOf kA3 1 rfl
          have a2 := cellOf kA3 2 rfl
          have hm3 := hnT _ _ _ hma hc3
          have hcw3 := toW _ _ hca hc3
          clear hgr hra hma hca kA hc3
          rcases hto with ⟨g1, rfl, rfl, rfl, rfl⟩ | ⟨g1, _, rfl, rfl, rfl, rfl⟩ | ⟨g1, j, hf, rfl, rfl, rfl, rfl⟩
          · dsimp only
            go_wp2_with fail
            go_loopw [14] (fun v wq => v = .int .i64 0 ∧ w3 = wq) (fun _ _ => 0)
            case atStart => exact ⟨rfl, rfl⟩
            case round =>
              obtain ⟨rfl, rfl⟩ := hrel
              go_wp2_with fail
              go_roundw
              case rel => exact ⟨k + 1, _, _, al, by omega, by go_num, hx, hk3, hm3, how, hcw3⟩
              case measure => exact meas_lt (by omega)
          · dsimp only
            go_wp2_with fail
            go_loopw [14] (fun v wq => v = .int .i64 0 ∧ w3 = wq) (fun _ _ => 0)
            case atStart => exact ⟨rfl, rfl⟩
            case round =>
              obtain ⟨rfl, rfl⟩ := hrel
              go_wp2_with fail
              go_roundw
              case rel => exact ⟨k + 1, _, _, al, by omega, by go_num, hx, hk3, hm3, how, hcw3⟩
              case measure => exact meas_lt (by omega)
          · obtain ⟨nn, rfl⟩ : ∃ nn : Nat, bb = nn := ⟨bb.toNat, by omega⟩
            rw [Int.toNat_natCast] at hk3 hf
            have hfree : j + nn ≤ N := by have := hf.1.1; omega
            have hfr := hf.1.2
            have hml2 := fun q => markB_length x j true q
            obtain ⟨W2, hW2⟩ : ∃ z, z = fillL W (16 * j) 0 (16 * nn) := ⟨_, rfl⟩
            rw [← hW2] at hk3
            have HFR := Lib.hid hfr
            clear hW2 hf hfr
            have W1 : IntKind.i64.wrap ((j : Int) + (nn : Int)) = (j : Int) + (nn : Int) := IntWalk.i64_in _ (by omega)
            dsimp only
            go_wp2_with fail
            go_loopw [14] (fun v wq => ∃ (q : Nat) (al2 : AL), q ≤ nn ∧ v = .int .i64 ((j : Int) + (q : Int)) ∧ PagesAt wq s p g m h' (markB x j true nn) W2 ∧ MapAt wq o al2 ∧ OwnsB al2 (markB x j true q) ∧ Ch (One o) w3 wq) (fun v _ => j + nn - (intOf v).toNat)
            case atStart => exact ⟨0, al, by omega, by simp, hk3, hm3, how, Ch.refl _ _⟩
            case round =>
              obtain ⟨q, al2, hq, rfl, hkq, hmq, hoq, hcq⟩ := hrel
              have kAq := hcq.heap kA3 hRo.1
              have a0 := cellOf kAq 0 rfl
              have a1 := cellOf kAq 1 rfl
              have a2 := cellOf kAq 2 rfl
              by_cases hlq : q < nn
              · have b1 : decide ((j : Int) + (q : Int) < (j : Int) + (nn : Int)) = true := decide_eq_true (by omega)
                have b2 : decide ((j : Int) + (q : Int) < 0) = false := decide_eq_false (by omega)
                have b4 : decide ((j : Int) + (q : Int) ≥ (N : Int)) = false := decide_eq_false (by omega)
                have W3 : IntKind.i64.wrap ((j : Int) + (q : Int) + 1) = (j : Int) + (q : Int) + 1 := IntWalk.i64_in _ (by omega)
                have hlk := run_lookup1 (P := Try.prog) (t := 74) Try.underlying74 (by kernel_rfl) infoBoolP hmq ((j : Int) + (q : Int))
                have hat := hoq.at (j + q)
                rw [markB_get x j true q (j + q) (by omega), if_neg (by omega), HFR.out q hlq] at hat
                rw [show ((j + q : Nat) : Int) = (j : Int) + (q : Int) by omega] at hat
                rw [hat] at hlk
                have hset := hoq.set (j + q) (by rw [hml2]; omega) true
                rw [show ((j + q : Nat) : Int) = (j : Int) + (q : Int) by omega] at hset
                obtain ⟨w4, hu, hm4, hc4⟩ := run_mapUpdate_al (P := Try.prog) (t := 74) Try.underlying74 (by kernel_rfl) hmq ((j : Int) + (q : Int)) (.bool true)
                have hlen := bits_Len wr p g _ hkq.row
                rw [hml2, hx] at hlen
                have c0 := hkq.c0
                have HSET := Lib.hid hset
                clear hat hset
                go_wp2_with fail
                with_reducible refine hlen.mono ?_
                rintro e w5 ⟨rfl, rfl⟩
                dsimp only
                go_wp2_with fail
                go_roundw
                case rel => exact ⟨q + 1, aSet al2 ((j : Int) + (q : Int)) (.bool true), by omega, by first | (congr 1; omega) | congr 1, hnO _ _ _ _ hkq hc4, hm4, HSET.out, hcq.trans hc4⟩
                case measure =>
                  show j + nn - ((j : Int) + (q : Int) + 1).toNat < j + nn - ((j : Int) + (q : Int)).toNat
                  omega
              · obtain rfl : q = nn := by omega
                have b1 : decide ((j : Int) + (q : Int) < (j : Int) + (q : Int)) = false := decide_eq_false (by omega)
                go_wp2_with fail
                go_roundw
                case rel => exact ⟨k + 1, _, W2, al2, by omega, by go_num, by rw [hml2]; exact hx, hkq, hmq, hoq, toO _ _ hcw3 hcq⟩
                case measure => exact meas_lt (by omega)
        · have q0 : (kk == 0) = false := by simp [hk0]
          by_cases hk1 : kk = 1
          · have q1 : (kk == 1) = true := by simp [hk1]
            have hbk := pages_Back wa s p g m h' x W aa bb hra ia ib
            subst hk1
            clear hwa
            go_wp2_with fail
            rw [← HWA.out]
            with_reducible refine hbk.mono ?_
            rintro e w3 ⟨E, x', rfl, hk3, hc3, hto⟩
            have kA3 := hc3.heap kA (fun q => by have : wr.heap.size = g := q; omega)
            have a0 := cellOf kA3 0 rfl
            have a1 := cellOf kA3 1 rfl
            have a2 := cellOf kA3 2 rfl
            have hm3 := hnG _ _ _ hma hc3
            have hcw3 := toG _ _ hca hc3
            clear hbk hra hma hca kA hc3
            rcases hto with ⟨_, rfl, rfl⟩ | ⟨_, _, _, rfl, rfl⟩ | ⟨hb1, hwh, hfit, rfl, rfl⟩
            · dsimp only
              go_wp2_with fail
              go_roundw
              case rel => exact ⟨k + 1, _, _, al, by omega, by go_num, hx, hk3, hm3, how, hcw3⟩
              case measure => exact meas_lt (by omega)
            · dsimp only
              go_wp2_with fail
              go_roundw
              case rel => exact ⟨k + 1, _, _, al, by omega, by go_num, hx, hk3, hm3, how, hcw3⟩
              case measure => exact meas_lt (by omega)
            · unfold fitsB at hfit
              obtain ⟨nn, rfl⟩ : ∃ nn : Nat, bb = nn := ⟨bb.toNat, by omega⟩
              obtain ⟨j, rfl⟩ : ∃ j : Nat, aa = j := ⟨aa.toNat, by omega⟩
              have hfree : j + nn ≤ N := by omega
              have hwt : ∀ q, q < nn → x.getD (j + q) false = true := by
                unfold wholeB at hwh
                rw [Bool.and_eq_true, List.all_eq_true] at hwh
                intro q hq
                have := hwh.2 q (List.mem_range.2 (by simpa using hq))
                simpa using this
              simp only [Int.toNat_natCast] at hk3
              have hml2 := fun q => markB_length x j false q
              have HWT := Lib.hid hwt
              clear hwh hwt
              have W1 : IntKind.i64.wrap ((j : Int) + (nn : Int)) = (j : Int) + (nn : Int) := IntWalk.i64_in _ (by omega)
              dsimp only
              go_wp2_with fail
              go_loopw [15] (fun v wq => ∃ (q : Nat) (al2 : AL), q ≤ nn ∧ v = .int .i64 ((j : Int) + (q : Int)) ∧ PagesAt wq s p g m h' (markB x j false nn) W ∧ MapAt wq o al2 ∧ OwnsB al2 (markB x j false q) ∧ Ch (One o) w3 wq) (fun v _ => j + nn - (intOf v).toNat)
              case atStart => exact ⟨0, al, by omega, by simp, hk3, hm3, how, Ch.refl _ _⟩
              case round =>
                obtain ⟨q, al2, hq, rfl, hkq, hmq, hoq, hcq⟩ := hrel
                have kAq := hcq.heap kA3 hRo.1
                have a0 := cellOf kAq 0 rfl
                have a1 := cellOf kAq 1 rfl
                have a2 := cellOf kAq 2 rfl
                by_cases hlq : q < nn
                · have b1 : decide ((j : Int) + (q : Int) < (j : Int) + (nn : Int)) = true := decide_eq_true (by omega)
                  have W3 : IntKind.i64.wrap ((j : Int) + (q : Int) + 1) = (j : Int) + (q : Int) + 1 := IntWalk.i64_in _ (by omega)
                  have hlk := run_lookup1 (P := Try.prog) (t := 74) Try.underlying74 (by kernel_rfl) infoBoolP hmq ((j : Int) + (q : Int))
                  have hat := hoq.at (j + q)
                  rw [markB_get x j false q (j + q) (by omega), if_neg (by omega), HWT.out q hlq] at hat
                  rw [show ((j + q : Nat) : Int) = (j : Int) + (q : Int) by omega] at hat
                  rw [hat] at hlk
                  have hset := hoq.set (j + q) (by rw [hml2]; omega) false
                  rw [show ((j + q : Nat) : Int) = (j : Int) + (q : Int) by omega] at hset
                  obtain ⟨w4, hu, hm4, hc4⟩ := run_mapUpdate_al (P := Try.prog) (t := 74) Try.underlying74 (by kernel_rfl) hmq ((j : Int) + (q : Int)) (.bool false)
                  have HSET := Lib.hid hset
                  clear hat hset
                  go_wp2_with fail
                  go_roundw
                  case rel => exact ⟨q + 1, aSet al2 ((j : Int) + (q : Int)) (.bool false), by omega, by first | (congr 1; omega) | congr 1, hnO _ _ _ _ hkq hc4, hm4, HSET.out, hcq.trans hc4⟩
                  case measure =>
                    show j + nn - ((j : Int) + (q : Int) + 1).toNat < j + nn - ((j : Int) + (q : Int)).toNat
                    omega
                · obtain rfl : q = nn := by omega
                  have b1 : decide ((j : Int) + (q : Int) < (j : Int) + (q : Int)) = false := decide_eq_false (by omega)
                  have hbk2 := pages_Back wr s p g m h' _ W (j : Int) (q : Int) hkq ia ib
                  have hcwq := toO _ _ hcw3 hcq
                  have hno : ∀ E x'', BackTo (markB x j false q) (j : Int) (q : Int) E x'' → E = 2 ∧ x'' = markB x j false q := by
                    intro E x'' hto
                    rcases hto with ⟨h1, _, _⟩ | ⟨_, _, _, h1, h2⟩ | ⟨h1, h2, _, _, _⟩
                    · exfalso
                      rcases h1 with h1 | h1
                      · omega
                      · exact h1 (by rw [hml2]; unfold fitsB; omega)
                    · exact ⟨h1, h2⟩
                    · exfalso
                      unfold wholeB at h2
                      rw [Bool.and_eq_true, List.all_eq_true] at h2
                      have := h2.2 0 (List.mem_range.2 (by simp; omega))
                      simp only [Int.toNat_natCast, Nat.add_zero] at this
                      rw [markB_get x j false q j (by omega), if_pos (by omega)] at this
                      simp at this
                  have HNO := Lib.hid hno
                  clear hno
                  go_wp2_with fail
                  with_reducible refine hbk2.mono ?_
                  rintro e w5 ⟨E, x5, rfl, hk5, hc5, hto5⟩
                  obtain ⟨rfl, rfl⟩ := HNO.out E x5 hto5
                  have hm5 := hnG _ _ _ hmq hc5
                  dsimp only
                  go_wp2_with fail
                  go_roundw
                  case rel => exact ⟨k + 1, _, W, al2, by omega, by go_num, by rw [hml2]; exact hx, hk5, hm5, hoq, toG _ _ hcwq hc5⟩
                  case measure => exact meas_lt (by omega)
          · have q1 : (kk == 1) = false := by simp [hk1]
            clear hwa
            go_wp2_with fail
            rw [← HWA.out]
            go_roundw
            case rel => exact ⟨k + 1, x, W, al, by omega, by go_num, hx, hra, hma, how, hca⟩
            case measure => exact meas_lt (by omega)
      · obtain rfl : k = l.length := by omega
        clear h
        have hgr := pages_Grant_all wr s p g m h' x W K hr (show _ ∧ _ from by omega)
        go_wp2_with fail
        with_reducible refine hgr.mono ?_
        rintro e w3 ⟨at_, E, x', W', rfl, hk3, hc3, hto⟩
        have hcw3 := toW _ _ hc hc3
        clear hgr hc3
        rcases hto with ⟨g1, rfl, rfl, rfl, rfl⟩ | ⟨g1, _, rfl, rfl, rfl, rfl⟩ | ⟨g1, j, hf, rfl, rfl, rfl, rfl⟩
        · exfalso; omega
        · dsimp only
          go_wp2_with fail
          with_reducible refine (fixed03 _).mono ?_
          rintro e w4 ⟨rfl, hc4⟩
          dsimp only
          go_wp2_with fail
          go_ret
          exact ⟨rfl, hcw3.trans hc4⟩
        · rw [Int.toNat_natCast] at hk3 hf
          have hfree : j + K ≤ x.length := hf.1.1
          have hbe := back_eq x j K hf.1
          have hcm := cnt_mark x j K x.length hf.1 rfl
          have hwm := whole_marked x j K hfree
          have hml2 := markB_length x j true K
          have hfr := pages_Free w3 s p g m h' _ _ hk3
          rw [hml2, hcm] at hfr
          have hbk := fun W1 (hk : PagesAt W1 s p g m h' (markB x j true K) (fillL W (16 * j) 0 (16 * K))) => pages_Back W1 s p g m h' _ _ (j : Int) (K : Int) hk (show _ ∧ _ from by omega) (show _ ∧ _ from by omega)
          have hyes : ∀ E x'', BackTo (markB x j true K) (j : Int) (K : Int) E x'' → E = 0 ∧ x'' = x := by
            intro E x'' hto
            rcases hto with ⟨h1, _, _⟩ | ⟨_, _, h1, _, _⟩ | ⟨_, _, _, h1, h2⟩
            · exfalso
              rcases h1 with h1 | h1
              · omega
              · exact h1 (by rw [hml2]; unfold fitsB; omega)
            · rw [hwm] at h1; cases h1
            · refine ⟨h1, ?_⟩
              rw [h2, Int.toNat_natCast, Int.toNat_natCast]
              exact hbe
          have HYES := Lib.hid hyes
          obtain ⟨C, hC⟩ : ∃ z, z = cntTo x x.length := ⟨_, rfl⟩
          have hCl : C ≤ N := by rw [hC, ← hx]; exact popB_le _ _
          have hfr2 := fun W1 V (hk : PagesAt W1 s p g m h' x V) => pages_Free W1 s p g m h' x V hk
          have hgr2 := fun W1 V (hk : PagesAt W1 s p g m h' x V) => pages_Grant_some W1 s p g m h' x V K j hk (by omega) (by omega) hf
          have hfr3 := fun W1 V (hk : PagesAt W1 s p g m h' (markB x j true K) V) => pages_Free W1 s p g m h' _ V hk
          simp only [hml2, hcm] at hfr3
          simp only [← hC] at hfr hfr2 hfr3
          simp only [hx] at hfr hfr2 hfr3
          obtain ⟨fre, hfre⟩ : ∃ z : Int, z = (N : Int) - ((C + K : Nat) : Int) := ⟨_, rfl⟩
          have hfK : (N : Int) - (C : Int) = fre + K := by omega
          rw [← hfre] at hfr
          simp only [← hfre] at hfr3
          simp only [hfK] at hfr2
          have hfreb : -1000 ≤ fre ∧ fre ≤ 1000 := by omega
          have W1 : IntKind.i64.wrap (fre + (K : Int)) = fre + (K : Int) := IntWalk.i64_in _ (by omega)
          clear hyes hbe hcm hwm hC hf hfre hfK
          dsimp only
          go_wp2_with fail
          with_reducible refine hfr.mono ?_
          rintro e w4 ⟨rfl, hc4⟩
          have hk4 := hk3.ch0 hc4
          dsimp only
          go_wp2_with fail
          with_reducible refine (hbk _ hk4).mono ?_
          rintro e w5 ⟨E, x5, rfl, hk5, hc5, hto5⟩
          obtain ⟨rfl, rfl⟩ := HYES.out E x5 hto5
          dsimp only
          go_wp2_with fail
          with_reducible refine (hfr2 _ _ hk5).mono ?_
          rintro e w6 ⟨rfl, hc6⟩
          have hk6 := hk5.ch0 hc6
          dsimp only
          go_wp2_with fail
          with_reducible refine (hgr2 _ _ hk6).mono ?_
          rintro e w7 ⟨rfl, hk7, hc7⟩
          dsimp only
          go_wp2_with fail
          with_reducible refine (fixed03 _).mono ?_
          rintro e w8 ⟨rfl, hc8⟩
          have hk8 := hk7.ch0 hc8
          dsimp only
          go_wp2_with fail
          with_reducible refine (hfr3 _ _ hk8).mono ?_
          rintro e w9 ⟨rfl, hc9⟩
          dsimp only
          go_wp2_with fail
          go_ret
          exact ⟨rfl, ((toW _ _ ((toG _ _ (hcw3.trans hc4) hc5).trans hc6) hc7).trans hc8).trans hc9⟩
end Go.Proofs.Ytpldogmamifdpaa

/- The law OwnerRuns: the walk. -/
import Derived.Test.YtlmaflhfedbmdaaLaw06b
import Derived.Test.YtlmaflhfedbmdaaRunsPure
import Derived.Test.YtlmaflhfedbmdaaRange
set_option linter.unusedVariables false
set_option linter.unusedSimpArgs false
namespace Go.Proofs.Ytlmaflhfedbmdaa
open Go Go.RowKit

theorem mem_setK (l : List Int) (a : Nat) (o v : Int) : ∀ k, v ∈ setK l a o k → v ∈ l ∨ v = o
  | 0, h => .inl h
  | k + 1, h => by
    rcases List.mem_or_eq_of_mem_set h with h | h
    · exact mem_setK l a o v k h
    · exact .inr h
theorem mem_setL (l : List Int) (x y o v : Int) (h : v ∈ setL l x y o) : v ∈ l ∨ v = o := by
  unfold setL at h
  split at h
  · exact mem_setK _ _ _ _ _ h
  · exact .inl h
theorem aKeys_set_mem {al : AL} {k q : Int} {v : Value} : q ∈ aKeys (aSet al k v) ↔ q = k ∨ q ∈ aKeys al := by
  rw [aKeys_mem, aKeys_mem, aGet_set]
  by_cases h : q = k
  · simp [h]
  · simp [h]

theorem i0 : I64 0 := show _ ∧ _ from by decide
theorem no_lt {n : Nat} : ∀ k, No k → k < n := fun _ q => False.elim q

set_option maxRecDepth 100000 in
set_option maxHeartbeats 4000000 in
theorem runs06 (w : World) (n : Int) (a : Option Addr) (c : Nat) (l : List OAct) (h : SlR oactRp No w a c l) (hn : 0 ≤ n ∧ n ≤ 65535) (hl : l.length ≤ 9223372036854775807) :
    Calls Try.prog 9 #[.int .u16 n, .slice a l.length c] w fun e w' => e = .returned (.bool true) ∧ Ch No w w' := by
  by_cases hcut : 60 < l.length
  · have b3 : decide ((l.length : Int) > 60) = true := by simp; omega
    go_enter Try.func9, Try.ntmps9
    go_wp2_with fail
    with_reducible refine (fixed06 _).mono ?_
    rintro e w1 ⟨rfl, hc⟩
    dsimp only
    go_wp2_with fail
    go_ret
    exact ⟨rfl, hc⟩
  · have b3 : decide ((l.length : Int) > 60) = false := by simp; omega
    have hl60 : l.length ≤ 60 := by omega
    clear hcut hl
    obtain ⟨M, hM⟩ : ∃ M, M = n % 300 := ⟨_, rfl⟩
    have hM0 : 0 ≤ M ∧ M < 300 := by omega
    have e1 : IntKind.i64.wrap n = n := IntWalk.i64_in _ (by omega)
    have e2 : n.tmod 300 = M := by rw [hM]; exact Int.tmod_eq_emod_of_nonneg hn.1
    have e3 : IntKind.i64.wrap M = M := IntWalk.i64_in _ (by omega)
    obtain ⟨N, hN⟩ : ∃ N : Nat, N = M.toNat := ⟨_, rfl⟩
    have hMN : M = N := by omega
    have hN3 : N < 300 := by omega
    clear hM
    subst hMN
    clear hN hM0
    go_enter Try.func9, Try.ntmps9
    go_wp2_with fail
    have hiN : I64 (N : Int) := show _ ∧ _ from by omega
    with_reducible refine (owner_New (N : Int) _ hiN No).mono ?_
    rintro e w1 ⟨p, m, rfl, hs1, hc1, hp1', hm1'⟩
    rw [show (min (max (N : Int) 0) 1024).toNat = N by omega] at hs1
    rw [show (fun _ => (0 : Int)) = pageAt (List.replicate N 0) from by funext q; rw [pageAt_zeros]] at hs1
    obtain ⟨xs0, hx0⟩ : ∃ z, z = List.replicate N (0 : Int) := ⟨_, rfl⟩
    have hxl : xs0.length = N := by rw [hx0, List.length_replicate]
    have hxz : ∀ v ∈ xs0, v = 0 := by rw [hx0]; intro v hv; exact List.eq_of_mem_replicate hv
    rw [← hx0] at hs1
    clear hx0
    dsimp only
    go_wp2_with fail
    obtain ⟨mm, hmm⟩ : ∃ z, z = w1.heap.size := ⟨_, rfl⟩
    have hM0 : MapAt (w1.alloc (.map #[] 0)) mm [] := by rw [hmm]; exact MapAt.new w1
    have hGl : ∀ q, Two p m q → w.heap.size ≤ q ∧ q ≠ mm := fun q hq => by
      have := hs1.glt q hq
      rcases hq with rfl | rfl <;> omega
    have hs2 := hs1.ch0 ((Ch.refl _ _).alloc (.map #[] 0))
    have hsz1 := hc1.size
    have hc2 : Ch No w (w1.alloc (.map #[] 0)) := hc1.alloc _
    clear hs1 hp1' hm1'
    rw [← hmm]
    have hwm : w.heap.size ≤ mm := by omega
    obtain ⟨w2, hw2⟩ : ∃ z, z = w1.alloc (.map #[] 0) := ⟨_, rfl⟩
    rw [← hw2] at hM0 hs2 hc2 ⊢
    clear hw2 hmm hsz1 hc1
    go_loopw [30] (fun i wr => ∃ (k : Nat) (xs : List Int) (G : Nat → Prop) (al : AL), k ≤ l.length ∧ i = .int .i64 k ∧ xs.length = N ∧ OwnAt wr p m N (pageAt xs) G ∧ MapAt wr mm al ∧ (∀ q, G q → w.heap.size ≤ q ∧ q ≠ mm) ∧ (∀ v ∈ xs, v ≠ 0 → v ∈ aKeys al) ∧ (∀ v ∈ aKeys al, I64 v) ∧ Ch No w wr) (fun i _ => l.length - (intOf i).toNat)
    case atStart => exact ⟨0, xs0, _, _, by omega, rfl, hxl, hs2, hM0, hGl, fun v hv h0 => absurd (hxz v hv) h0, fun v hv => by simp [aKeys] at hv, hc2⟩
    case round =>
      obtain ⟨k, xs, G, al, hk, rfl, hxs, hs, hm, hG, hin, hI, hc⟩ := hrel
      clear hs2 hM0 hc2 hGl hxz hxl
      by_cases hlt : k < l.length
      · obtain ⟨b, off, rfl, _, d0, d1, d2, hx, hy, ho⟩ := (h.ch0 hc).oact_at k hlt
        obtain ⟨A, hA⟩ : ∃ A, A = l[k] := ⟨_, rfl⟩
        rw [← hA] at d0 d1 d2 hx hy ho
        clear hA h
        go_wp2_with fail
        have hal : Ch No wr (wr.alloc (.cells #[.int .i64 A.x, .int .i64 A.y, .int .i64 A.o] 74)) := (Ch.refl _ _).alloc _
        have hnG : ¬ G wr.heap.size := fun e => by have := hs.glt _ e; omega
        have hml := hm.lt
        have hma := hm.ch0 hal
        with_reducible refine (owner_Set _ p m N xs G A.x A.y A.o (hs.ch0 hal) hxs hx hy ho).mono ?_
        rintro e w4 ⟨rfl, G', hs4, hGG, hGn, hc4⟩
        have e0 : w4.cell? ⟨wr.heap.size, 0, none⟩ = some (.int .i64 A.x) := hc4.cell (by simp) hnG
        have e1' : w4.cell? ⟨wr.heap.size, 1, none⟩ = some (.int .i64 A.y) := hc4.cell (by simp) hnG
        have e2' : w4.cell? ⟨wr.heap.size, 2, none⟩ = some (.int .i64 A.o) := hc4.cell (by simp) hnG
        have hm4 := hma.ch hc4 (fun q => (hG _ q).2 rfl)
        obtain ⟨w5, hu, hm5, hc5⟩ := run_mapUpdate_al (P := Try.prog) (t := 86) Try.underlying86 (by kernel_rfl) hm4 A.o (.bool true)
        have hsz4 := hc4.size
        have hsz := hc.size
        simp only [World.size_alloc] at hsz4 hGn
        have hG5 : ∀ q, G' q → w.heap.size ≤ q ∧ q ≠ mm := fun q hq => (hGn q hq).elim (hG q) (fun h' => by omega)
        have hs5 := hs4.ch hc5 (fun q hq => (hG5 q hq).2)
        have hc6 : Ch No w w5 := ((hc.trans hal).andThen hc4 (fun q hq => .inr (hG q hq).1)).andThen hc5 (fun q hq => .inr (by cases hq; exact hwm))
        have hl5 := setL_length xs A.x A.y A.o
        rw [hxs] at hl5
        dsimp only
        clear hs hm hma
        go_wp2_with fail
        go_roundw
        case rel => exact ⟨k + 1, _, _, _, by omega, by go_num, hl5, hs5, hm5, hG5, fun v hv h0 => aKeys_set_mem.2 ((mem_setL _ _ _ _ _ hv).elim (fun q => .inr (hin v q h0)) (fun q => .inl q)), fun v hv => (aKeys_set_mem.1 hv).elim (fun q => by rw [q]; exact ho) (hI v), hc6⟩
        case measure => exact meas_lt (by omega)
      · obtain rfl : k = l.length := by omega
        clear h
        obtain ⟨w3, hrng, hit, hc3, hsz3⟩ := run_range_al (P := Try.prog) (t := 86) Try.underlying86 hm
        go_wp2_with fail
        obtain ⟨r, hr⟩ : ∃ z, z = wr.heap.size := ⟨_, rfl⟩
        have hGr : ∀ q, G q → q ≠ r := fun q hq => by have := hs.glt q hq; omega
        have hs3 := hs.ch0 hc3
        have hcw3 := hc.trans hc3
        have hwr : w.heap.size ≤ r := by have := hc.size; omega
        simp only [← hr] at hit ⊢
        clear hs hm hc hc3 hsz3 hrng hr
        go_loopw [10] (fun t wq => ∃ done : List Int, t = .int .i64 (sumCnt (pageAt xs) N done : Nat) ∧ done.Nodup ∧ (∀ q ∈ done, q ∈ aKeys al) ∧ IterAt wq r mm al done ∧ OwnAt wq p m N (pageAt xs) G ∧ Ch No w wq) (fun _ wq => al.length - (wq.iterSeen r).size)
        case atStart => exact ⟨[], rfl, by simp, by simp, hit, hs3, hcw3⟩
        case round =>
          clear hit hs3 hcw3
          obtain ⟨done, rfl, hdn, hsub, hit, hs, hc⟩ := hrel
          have hseen := hit.seen
          rcases run_next_al (P := Try.prog) hit 0 with ⟨hall, hrun⟩ | ⟨o, v, w4, hg, hnd, hrun, hit4, hch, _⟩
          · have hown : sumCnt (pageAt xs) N done = ownedOf (pageAt xs) N := sumCnt_owned _ done hdn N (fun i hi h0 => hall _ (by
              have hv : pageAt xs i = xs[i] := pageAt_in xs i (by omega)
              rw [hv] at h0 ⊢
              exact hin _ (List.getElem_mem _) (by omega)))
            obtain ⟨y, hy⟩ : ∃ y, y = ownedOf (pageAt xs) N := ⟨_, rfl⟩
            rw [hown, ← hy]
            clear hown
            go_wp2_with fail
            with_reducible refine (fixed06 _).mono ?_
            rintro e w5 ⟨rfl, hc5⟩
            have hs5 := hs.ch0 hc5
            dsimp only
            go_wp2_with fail
            with_reducible refine (owner_Owned _ p m N _ G hs5).mono ?_
            rintro e w6 ⟨rfl, rfl⟩
            rw [← hy]
            dsimp only
            go_wp2_with fail
            with_reducible refine (owner_Of No _ p m N _ G 0 hs5 i0 no_lt).mono ?_
            rintro e w6 ⟨vv, rfl, hv6, hc6⟩
            rw [if_pos (by decide)] at hv6
            obtain ⟨a6, c6, rfl, hr6⟩ := hv6.sl no_lt
            dsimp only
            go_wp2_with fail
            go_ret
            exact ⟨rfl, (hc.trans hc5).trans hc6⟩
          · have hok : o ∈ aKeys al := aKeys_mem.2 (by rw [hg]; rfl)
            have hoI : I64 o := hI o hok
            have hdn' : (o :: done).Nodup := List.nodup_cons.2 ⟨hnd, hdn⟩
            have hsub' : ∀ q ∈ o :: done, q ∈ aKeys al := fun q hq => (List.mem_cons.1 hq).elim (fun e => by rw [e]; exact hok) (hsub q)
            have hle := sub_length (o :: done) (aKeys al) hdn' hsub'
            rw [aKeys_length, List.length_cons] at hle
            obtain ⟨v', hv', hen⟩ := run_entry_al (P := Try.prog) hit4
            have hs4 := hs.ch hch (fun q hq => hGr q hq)
            have hc4 : Ch No w w4 := hc.andThen hch (fun q hq => .inr (by cases hq; exact hwr))
            have hsum := sumCnt_le (pageAt xs) N (o :: done) hdn'
            simp only [sumCnt] at hsum
            obtain ⟨T, hT⟩ : ∃ T, T = sumCnt (pageAt xs) N done := ⟨_, rfl⟩
            simp only [← hT] at hsum ⊢
            have HT := Lib.hid hT; clear hT
            go_wp2_with fail
            with_reducible refine (owner_Of No _ p m N (pageAt xs) G o hs4 hoI no_lt).mono ?_
            rintro e w5 ⟨vv, rfl, hv5, hc5⟩
            obtain ⟨L, hL⟩ : ∃ L, L = (if o < 1 then [] else runsOf (pageAt xs) o N) := ⟨_, rfl⟩
            have hchk : chk (pageAt xs) o N (-1) L ∧ sumN L = ((if o < 1 then 0 else cntOf (pageAt xs) o N : Nat) : Int) ∧ L.length ≤ N := by
              rw [hL]
              by_cases h1 : o < 1
              · rw [if_pos h1, if_pos h1]; exact ⟨trivial, rfl, by simp⟩
              · rw [if_neg h1, if_neg h1]
                have := runs_chk (pageAt xs) o N N (Nat.le_refl _)
                exact ⟨this.1, this.2.1, runsOf_length _ _ _⟩
            obtain ⟨hck, hsN, hLl⟩ := hchk
            rw [← hL] at hv5
            clear hL
            obtain ⟨C, hC⟩ : ∃ C : Nat, C = (if o < 1 then 0 else cntOf (pageAt xs) o N) := ⟨_, rfl⟩
            have hC' := Lib.hid hC
            rw [← hC] at hsN hsum
            clear hC
            obtain ⟨a5, c5, rfl, hr5⟩ := hv5.sl no_lt
            clear hv5 hs hrun hen hc hch
            have hs5 := hs4.ch0 hc5
            have hit5 := hit4.ch hc5 (fun q => q) (fun q => q)
            have hc5' := hc4.trans hc5
            clear hs4 hit4 hc4 hc5
            dsimp only
            go_wp2_with fail
            go_loopw [10, 12, 54] (fun t la i wq => ∃ (j : Nat) (z : Int), -1 ≤ z ∧ j ≤ L.length ∧ i = .int .i64 j ∧ la = .int .i64 z ∧ t = .int .i64 ((T : Int) + sumN (L.take j)) ∧ chk (pageAt xs) o N z (L.drop j) ∧ Ch No w5 wq) (fun _ _ i _ => L.length - (intOf i).toNat)
            case atStart => exact ⟨0, -1, by omega, by omega, rfl, rfl, by simp [sumN], by simpa using hck, Ch.refl _ _⟩
            case round =>
              obtain ⟨j, z, hz, hj, rfl, rfl, rfl, hkj, hcq⟩ := hrel
              by_cases hlt : j < L.length
              · obtain ⟨b, off, rfl, _, _, g0, g1, hf0, hf1⟩ := (hr5.ch0 hcq).pair_at j hlt
                obtain ⟨q1, q2, q3, q4, q5⟩ := chk_drop _ o N L z j hlt hkj
                have htk := sumN_take L j hlt
                have hsj := sumN_nonneg _ o N L (-1) hck (j + 1)
                obtain ⟨⟨x, y⟩, hxy⟩ : ∃ e, e = L[j] := ⟨_, rfl⟩
                rw [← hxy] at g0 g1 hf0 hf1 q1 q2 q3 q4 q5 htk
                clear hxy hkj
                simp only at g0 g1 hf0 hf1 q1 q2 q3 q4 q5 htk
                have hb0 := hf0
                have b1 : decide (x ≤ z) = false := decide_eq_false (by omega)
                have b2 : decide (y < 1) = false := decide_eq_false (by omega)
                have b4 : decide (x + y > N) = false := decide_eq_false (by omega)
                have W1 : IntKind.i64.wrap (x + y) = x + y := IntWalk.i64_in _ (by omega)
                obtain ⟨S, hS⟩ : ∃ S, S = sumN (L.take j) := ⟨_, rfl⟩
                rw [← hS] at htk ⊢
                have hS' := sumN_nonneg _ o N L (-1) hck j
                rw [← hS] at hS'
                have W2 : IntKind.i64.wrap ((T : Int) + S + y) = (T : Int) + S + y := IntWalk.i64_in _ (by omega)
                clear hS
                go_wp2_with fail
                have hal : Ch No w5 (wr.alloc (.cells #[.int .i64 x, .int .i64 y] 72)) := hcq.alloc _
                have f0 : (wr.alloc (.cells #[.int .i64 x, .int .i64 y] 72)).cell? ⟨wr.heap.size, 0, none⟩ = some (.int .i64 x) := by simp
                have f1 : (wr.alloc (.cells #[.int .i64 x, .int .i64 y] 72)).cell? ⟨wr.heap.size, 1, none⟩ = some (.int .i64 y) := by simp
                obtain ⟨B, hB⟩ : ∃ B, B = wr.heap.size := ⟨_, rfl⟩
                obtain ⟨w6, hw6⟩ : ∃ z, z = wr.alloc (.cells #[.int .i64 x, .int .i64 y] 72) := ⟨_, rfl⟩
                rw [← hw6, ← hB] at f0 f1 ⊢
                rw [← hw6] at hal
                clear hw6 hB g0 g1 hr5 hcq
                have hs6 := hs5.ch0 hal
                go_loopw [15] (fun i wq => ∃ q : Nat, (q : Int) ≤ y ∧ i = .int .i64 (x + q) ∧ w6 = wq) (fun i _ => (x + y - intOf i).toNat)
                case atStart => exact ⟨0, by omega, by simp, rfl⟩
                case round =>
                  obtain ⟨q, hq, rfl, rfl⟩ := hrel
                  by_cases hqy : (q : Int) < y
                  · have hlt2 : decide (x + (q : Int) < x + y) = true := decide_eq_true (by omega)
                    have W3 : IntKind.i64.wrap (x + (q : Int) + 1) = x + (q : Int) + 1 := IntWalk.i64_in _ (by omega)
                    have hcp := owner_Page _ p m N _ G (x + (q : Int)) hs6 (show _ ∧ _ from by omega)
                    rw [q4 _ (by omega) (by omega)] at hcp
                    go_wp2_with fail
                    with_reducible refine hcp.mono ?_
                    rintro e w7 ⟨rfl, rfl⟩
                    dsimp only
                    go_wp2_with fail
                    go_roundw
                    case rel => exact ⟨q + 1, by omega, by go_num, trivial⟩
                    case measure =>
                      show (x + y - (x + (q : Int) + 1)).toNat < (x + y - (x + (q : Int))).toNat
                      omega
                  · have hlt2 : decide (x + (q : Int) < x + y) = false := decide_eq_false (by omega)
                    go_wp2_with fail
                    obtain ⟨Q, hQ⟩ : ∃ Q : Int, Q = q := ⟨_, rfl⟩
                    rw [← hQ] at hlt2 hq hqy ⊢
                    clear hQ
                    go_quiet (fail)
                    go_wp2_with fail
                    go_roundw
                    case rel => exact ⟨j + 1, x + y, by omega, by omega, by go_num, rfl, by rw [htk]; go_num, q5, hal.drewN _⟩
                    case measure => exact meas_lt (by omega)
              · obtain rfl : j = L.length := by omega
                clear hkj
                go_wp2_with fail
                go_roundw
                case rel => exact ⟨o :: done, by rw [List.take_length, hsN, sumCnt, ← hC'.out, ← HT.out]; go_num, hdn', hsub', hit5.ch hcq (fun q => q) (fun q => q), hs5.ch0 hcq, hc5'.trans hcq⟩
                case measure =>
                  rw [(hit5.ch hcq (fun q => q) (fun q => q)).seen, hseen, List.length_cons]
                  omega
end Go.Proofs.Ytlmaflhfedbmdaa

/- The law PlanApart: the walk. -/
import Derived.Test.YtlmaflhfedbmdaaDoorPlanPages
set_option linter.unusedVariables false
set_option linter.unusedSimpArgs false
namespace Go.Proofs.YtlmaflhfedbmdaaDoor
open Go Go.RowKit

/-- What stands behind each thing. -/
structure ApartInv (nx pg us : Int) (A : List (Int × Int)) : Prop where
  ok : PlanOk pg us
  nx0 : 0 ≤ nx ∧ nx ≤ 1024
  pgn : pg < nx ∨ (pg = -1 ∧ us = 16)
  all : ∀ r ∈ A, 0 ≤ r.1 ∧ 1 ≤ r.2 ∧ r.1 + r.2 ≤ 16 * nx ∧ (0 ≤ pg → r.1 + r.2 ≤ 16 * pg + us ∨ 16 * (pg + 1) ≤ r.1)

theorem apart_step {nx pg us x : Int} {A : List (Int × Int)} (h : ApartInv nx pg us A) (hx : 1 ≤ x ∧ x ≤ 16384) (hN : nx + needN us x ≤ 1024) :
    placeE us x nx = 0 ∧ 0 ≤ placeA pg us x nx ∧ placeA pg us x nx + x ≤ 16 * (nx + needN us x) ∧ (x ≤ 16 → placeA pg us x nx / 16 = (placeA pg us x nx + x - 1) / 16) ∧ (16 < x → placeA pg us x nx % 16 = 0) ∧
    (∀ y ∈ A, ¬ (placeA pg us x nx < y.1 + y.2) ∨ ¬ (y.1 < placeA pg us x nx + x)) ∧ ApartInv (nx + needN us x) (placeP pg us x nx).1 (placeP pg us x nx).2 (A ++ [(placeA pg us x nx, x)]) := by
  have hb := h.ok.bd
  have hn := h.nx0
  have hpn := h.pgn
  have hok := placeP_ok h.ok x nx
  unfold placeE placeA placeP needN at *
  have h1 : ¬ (x < 1 ∨ 16384 < x) := by omega
  simp only [if_neg h1] at hN hok ⊢
  by_cases h2 : x ≤ 16 - us
  · simp only [if_pos h2] at hN hok ⊢
    have hpg : 0 ≤ pg := by rcases h.ok with q | q <;> omega
    refine ⟨trivial, by omega, by omega, fun _ => by omega, fun _ => by omega, fun y hy => ?_, ⟨hok, by omega, by omega, fun r hr => ?_⟩⟩
    · obtain ⟨a1, a2, a3, a4⟩ := h.all y hy
      have := a4 hpg
      omega
    · rcases List.mem_append.1 hr with hr | hr
      · obtain ⟨a1, a2, a3, a4⟩ := h.all r hr
        have := a4 hpg
        exact ⟨a1, a2, by omega, fun _ => by omega⟩
      · simp only [List.mem_singleton] at hr
        subst hr
        exact ⟨by simp only; omega, by simp only; omega, by simp only; omega, fun _ => .inl (by simp only; omega)⟩
  · simp only [if_neg h2] at hN hok ⊢
    have h3 : ¬ (nx < 0 ∨ 1024 < nx) := by omega
    simp only [if_neg h3] at hok ⊢
    by_cases h4 : 16 < x
    · simp only [if_pos h4] at hok ⊢
      refine ⟨trivial, by omega, by omega, fun _ => by omega, fun _ => by omega, fun y hy => ?_, ⟨hok, by omega, by omega, fun r hr => ?_⟩⟩
      · obtain ⟨a1, a2, a3, a4⟩ := h.all y hy
        omega
      · rcases List.mem_append.1 hr with hr | hr
        · obtain ⟨a1, a2, a3, a4⟩ := h.all r hr
          exact ⟨a1, a2, by omega, a4⟩
        · simp only [List.mem_singleton] at hr
          subst hr
          exact ⟨by simp only; omega, by simp only; omega, by simp only; omega, fun _ => .inr (by simp only; omega)⟩
    · simp only [if_neg h4] at hok ⊢
      have hq : (x + 15) / 16 = 1 := by omega
      rw [hq] at hN ⊢
      refine ⟨trivial, by omega, by omega, fun _ => by omega, fun _ => by omega, fun y hy => ?_, ⟨hok, by omega, by omega, fun r hr => ?_⟩⟩
      · obtain ⟨a1, a2, a3, a4⟩ := h.all y hy
        omega
      · rcases List.mem_append.1 hr with hr | hr
        · obtain ⟨a1, a2, a3, a4⟩ := h.all r hr
          exact ⟨a1, a2, by omega, fun _ => .inl (by omega)⟩
        · simp only [List.mem_singleton] at hr
          subst hr
          exact ⟨by simp only; omega, by simp only; omega, by simp only; omega, fun _ => .inl (by simp only; omega)⟩
theorem infoRun : (Tryd.prog.info? 46).map (fun i => (i.zero, i.size, i.bytes)) = some (some (.agg #[.int .i64 0, .int .i64 0]), 2, 16) := by kernel_rfl
theorem no_ltp {n : Nat} : ∀ k, No k → k < n := fun _ q => False.elim q

set_option maxRecDepth 100000 in
set_option maxHeartbeats 4000000 in
theorem apart10 (w : World) (a : Option Addr) (c : Nat) (l : List Int) (h : SlR (intRp .i64) No w a c l) (hn : Nw w) (hm : l.length ≤ 9223372036854775807) :
    Calls Tryd.prog 5 #[.slice a l.length c] w fun e w' => e = .returned (.bool true) ∧ Ch No w w' := by
  by_cases hcut : 60 < l.length
  · have b3 : decide ((l.length : Int) > 60) = true := decide_eq_true (by omega)
    go_enter Tryd.func5, Tryd.ntmps5
    go_wp2_with fail
    with_reducible refine (fixed10 _ hn).mono ?_
    rintro e w1 ⟨rfl, hc⟩
    dsimp only
    go_wp2_with fail
    go_ret
    exact ⟨rfl, hc⟩
  · have b3 : decide ((l.length : Int) > 60) = false := decide_eq_false (by omega)
    have hl60 : l.length ≤ 60 := by omega
    clear hcut hm
    go_enter Tryd.func5, Tryd.ntmps5
    go_wp2_with fail
    with_reducible refine (plan_New _ hn).mono ?_
    rintro e w1 ⟨p, rfl, hp, hps, hc1⟩
    have hpb := hp.lt
    have hw1 := hc1.size
    obtain ⟨base, hbs⟩ : ∃ z, z = w1.heap.size := ⟨_, rfl⟩
    rw [← hbs] at hpb hw1
    have hb1 : base ≤ w1.heap.size := by omega
    clear hbs
    dsimp only
    go_wp2_with fail
    go_loopw [4, 5, 24] (fun nv v i wr => ∃ (k : Nat) (nx pg us : Int) (A : List (Int × Int)), k ≤ l.length ∧ i = .int .i64 k ∧ nv = .int .i64 nx ∧ A.length ≤ k ∧ OwnR (pairRp .i64) base 46 (One p) wr v A ∧ PlanAt wr p pg us ∧ ApartInv nx pg us A ∧ Ch No w wr ∧ base ≤ wr.heap.size) (fun _ _ i _ => l.length - (intOf i).toNat)
    case atStart => exact ⟨0, 0, -1, 16, [], by omega, rfl, rfl, by simp, OwnR.nilR _ _ _ _ _, hp, ⟨hp.ok, by omega, .inl (by omega), by simp⟩, hc1, hb1⟩
    case round =>
      obtain ⟨k, nx, pg, us, A, hk, rfl, rfl, hAk, ho, hs, hI, hc, hbw⟩ := hrel
      clear hp hc1 hb1
      by_cases hlt : k < l.length
      · obtain ⟨b, off, rfl, _, _, d0, i0⟩ := (h.ch0 hc).int_at k hlt
        obtain ⟨x, hxe⟩ : ∃ x, x = l[k] := ⟨_, rfl⟩
        rw [← hxe] at d0 i0
        clear hxe h
        have hnr := hn.ch hc (fun q => q)
        have hnx := hI.nx0
        have hnb := needN_bd us x hI.ok.bd.2.2
        have hneed := plan_Need wr p pg us x hs hnr i0
        have hst := apart_step (x := x) hI
        have hex : needE x = 0 → 1 ≤ x ∧ x ≤ 16384 := by
          unfold needE
          intro h
          by_cases h1 : x < 1 ∨ 16384 < x
          · rw [if_pos h1] at h; omega
          · omega
        obtain ⟨N, hN⟩ : ∃ N, N = needN us x := ⟨_, rfl⟩
        obtain ⟨E, hE⟩ : ∃ E, E = needE x := ⟨_, rfl⟩
        rw [← hN] at hneed hnb hst
        rw [← hE] at hneed hex
        have EN := Lib.hid hN
        clear hN hE
        have W1 : IntKind.i64.wrap (nx + N) = nx + N := IntWalk.i64_in _ (by omega)
        by_cases hE0 : E = 0
        · have hEb : (E != 0) = false := by simpa using hE0
          by_cases hbig : nx + N > 1024
          · have b5 : decide (nx + N > 1024) = true := decide_eq_true hbig
            clear hst hex hE0
            go_wp2_with fail
            with_reducible refine hneed.mono ?_
            rintro e w2 ⟨rfl, hc2⟩
            dsimp only
            go_wp2_with fail
            exact ⟨⟨k + 1, nx, pg, us, A, by omega, by go_num, rfl, by omega, ho.ch0 hc2, hs.ch hc2 (fun q => q), hI, hc.trans hc2, by have := hc2.size; omega⟩, meas_lt (by omega)⟩
          · have b5 : decide (nx + N > 1024) = false := decide_eq_false hbig
            obtain ⟨x1, x2⟩ := hex hE0
            obtain ⟨t1, t2, t3, t4, t5, t6, t7⟩ := hst ⟨x1, x2⟩ (by omega)
            obtain ⟨at_, hat⟩ : ∃ z, z = placeA pg us x nx := ⟨_, rfl⟩
            have hni : I64 nx := show _ ∧ _ from by omega
            have hpl := plan_Place
            obtain ⟨⟨pg', us'⟩, hst'⟩ : ∃ s, s = placeP pg us x nx := ⟨_, rfl⟩
            rw [← hat] at t2 t3 t4 t5 t6 t7
            rw [← hst'] at t7
            simp only at t7
            have hplace : ∀ w, PlanAt w p pg us → Nw w → Calls Tryd.prog 10 #[.pointer (some ⟨p, 0, none⟩), .int .i64 x, .int .i64 nx] w fun e w' => e = .returned (.tuple #[.int .i64 at_, .int .i64 0]) ∧ PlanAt w' p pg' us' ∧ Ch (One p) w w' := by
              intro w h1 h2
              have := plan_Place w p pg us x nx h1 h2 i0 hni
              rw [t1, ← hat, ← hst'] at this
              exact this
            have hatb : at_ ≤ 16384 := by have := hI.nx0; omega
            have hne := t7.nx0
            have b6 : decide (at_ < 0) = false := decide_eq_false (by omega)
            have b7 : decide (at_ + x > 16 * (nx + N)) = false := decide_eq_false (by omega)
            have W2 : IntKind.i64.wrap (at_ + x) = at_ + x := IntWalk.i64_in _ (by omega)
            have W3 : IntKind.i64.wrap (16 * (nx + N)) = 16 * (nx + N) := IntWalk.i64_in _ (by omega)
            have W4 : IntKind.i64.wrap (at_ + x - 1) = at_ + x - 1 := IntWalk.i64_in _ (by omega)
            have T1 : at_.tdiv 16 = at_ / 16 := Int.tdiv_eq_ediv_of_nonneg (by omega)
            have T2 : (at_ + x - 1).tdiv 16 = (at_ + x - 1) / 16 := Int.tdiv_eq_ediv_of_nonneg (by omega)
            have T3 : at_.tmod 16 = at_ % 16 := Int.tmod_eq_emod_of_nonneg (by omega)
            have W5 : IntKind.i64.wrap (at_ / 16) = at_ / 16 := IntWalk.i64_in _ (by omega)
            have W6 : IntKind.i64.wrap ((at_ + x - 1) / 16) = (at_ + x - 1) / 16 := IntWalk.i64_in _ (by omega)
            have W7 : IntKind.i64.wrap (at_ % 16) = at_ % 16 := IntWalk.i64_in _ (by omega)
            have cases16 : (decide (x ≤ 16) = true ∧ decide (x > 16) = false ∧ (at_ / 16 != (at_ + x - 1) / 16) = false) ∨ (decide (x ≤ 16) = false ∧ decide (x > 16) = true ∧ (at_ % 16 != 0) = false) := by
              by_cases h16 : x ≤ 16
              · exact .inl ⟨decide_eq_true h16, decide_eq_false (by omega), by simpa using t4 h16⟩
              · exact .inr ⟨decide_eq_false h16, decide_eq_true (by omega), by simpa using t5 (by omega)⟩
            subst hE0
            have T4 := Lib.hid t4; have T5 := Lib.hid t5; have HAT := Lib.hid hat; have HST := Lib.hid hst'
            clear hst hex t1 t4 t5 hat hst' hpl
            have hFp : ∀ k, One p k → k < base := fun k hk => by have : k = p := hk; omega
            obtain ⟨aA, cA, rfl, hsA⟩ := ho.sl hFp
            rcases cases16 with ⟨b8, b9, b10⟩ | ⟨b8, b9, b10⟩
            all_goals
              go_wp2_with fail
              with_reducible refine hneed.mono ?_
              rintro e w2 ⟨rfl, hc2⟩
              dsimp only
              go_wp2_with fail
              with_reducible refine (hplace w2 (hs.ch hc2 (fun q => q)) (hnr.ch hc2 (fun q => q))).mono ?_
              rintro e w3 ⟨rfl, hs3, hc3⟩
              have hpr := hs.lt
              have hc23 : Ch (One p) wr w3 := hc2.ofNo.trans hc3
              have hnp : ∀ q, (Value.slice aA A.length cA).ownBlock = some q → ¬ One p q := fun q hq e => by have := (ho.blk q hq).1; have e' : q = p := e; omega
              dsimp only
              go_wp2_with fail
              have hnA : ∀ q, (Value.slice aA A.length cA).ownBlock = some q → q < wr.heap.size := fun q hq => (ho.blk q hq).2
              have hsz3 := hc23.size
              have f0 : (w3.alloc (.cells #[.int .i64 at_, .int .i64 x] 46)).cell? ⟨w3.heap.size, 0, none⟩ = some (.int .i64 at_) := by simp
              have f1 : (w3.alloc (.cells #[.int .i64 at_, .int .i64 x] 46)).cell? ⟨w3.heap.size, 1, none⟩ = some (.int .i64 x) := by simp
              have hc4 : Ch (One p) wr (w3.alloc (.cells #[.int .i64 at_, .int .i64 x] 46)) := hc23.alloc _
              have hs4 : PlanAt (w3.alloc (.cells #[.int .i64 at_, .int .i64 x] 46)) p pg' us' := hs3.ch ((Ch.refl No _).alloc _) (fun q => q)
              obtain ⟨B, hB⟩ : ∃ z, z = w3.heap.size := ⟨_, rfl⟩
              obtain ⟨w4, hw4⟩ : ∃ z, z = w3.alloc (.cells #[.int .i64 at_, .int .i64 x] 46) := ⟨_, rfl⟩
              rw [← hw4, ← hB] at f0 f1 ⊢
              rw [← hw4] at hc4 hs4
              clear hw4 hB hs3 hneed hplace
              have hsA4 : SlR (pairRp .i64) (One p) w4 aA cA A := hsA.chF hc4
              go_loopw [94] (fun i wq => ∃ j : Nat, j ≤ A.length ∧ i = .int .i64 j ∧ Ch No w4 wq) (fun i _ => A.length - (intOf i).toNat)
              case atStart => exact ⟨0, by omega, rfl, Ch.refl _ _⟩
              case round =>
                obtain ⟨j, hj, rfl, hcq⟩ := hrel
                by_cases hjt : j < A.length
                · obtain ⟨b2, off2, rfl, _, _, g0, g1, iy0, iy1⟩ := (hsA4.ch0 hcq).pair_at j hjt
                  have hdis := t6 _ (List.getElem_mem hjt)
                  have hya := hI.all _ (List.getElem_mem hjt)
                  obtain ⟨⟨y0, y1⟩, hye⟩ : ∃ e, e = A[j] := ⟨_, rfl⟩
                  rw [← hye] at g0 g1 iy0 iy1 hdis hya
                  clear hye
                  simp only at g0 g1 iy0 iy1 hdis hya
                  have f2 := hcq.cell f0 (fun q => q)
                  have f3 := hcq.cell f1 (fun q => q)
                  have f4 : (wr.alloc (.cells #[.int .i64 y0, .int .i64 y1] 46)).cell? ⟨B, 0, none⟩ = some (.int .i64 at_) := ((Ch.refl No wr).alloc _).cell f2 (fun q => q)
                  have f5 : (wr.alloc (.cells #[.int .i64 y0, .int .i64 y1] 46)).cell? ⟨B, 1, none⟩ = some (.int .i64 x) := ((Ch.refl No wr).alloc _).cell f3 (fun q => q)
                  have W8 : IntKind.i64.wrap (y0 + y1) = y0 + y1 := IntWalk.i64_in _ (by omega)
                  by_cases hd1 : at_ < y0 + y1
                  · have c1 : decide (at_ < y0 + y1) = true := decide_eq_true hd1
                    have c2 : decide (y0 < at_ + x) = false := decide_eq_false (by omega)
                    clear hdis hya hd1
                    go_wp2_with fail
                    go_roundw
                    case rel => exact ⟨j + 1, by omega, by go_num, hcq.alloc _⟩
                    case measure => exact meas_lt (by omega)
                  · have c1 : decide (at_ < y0 + y1) = false := decide_eq_false hd1
                    clear hdis hya hd1
                    go_wp2_with fail
                    go_roundw
                    case rel => exact ⟨j + 1, by omega, by go_num, hcq.alloc _⟩
                    case measure => exact meas_lt (by omega)
                · obtain rfl : j = A.length := by omega
                  have f2 := hcq.cell f0 (fun q => q)
                  have f3 := hcq.cell f1 (fun q => q)
                  have hcw := hc4.then0 hcq
                  have hcN : Ch No w wr := hc.andThen hcw (fun q hq => .inr (by have : q = p := hq; omega))
                  have hoE : OwnR (pairRp .i64) base 46 (One p) wr (.slice aA A.length cA) A := ho.ch hcw (fun _ q => q) hFp
                  have hsE := hs4.ch hcq (fun q => q)
                  have hwz := hcw.size
                  go_wp2_with (at_builtin; go_loud (refine wpL_push rfl _ _ _ rfl base 46 (.agg #[.int .i64 0, .int .i64 0]) 2 16 Tryd.underlying44 infoRun rfl (by decide) (pairRp .i64) rfl (One p) (.slice aA A.length cA) _ rfl hoE [.int .i64 at_, .int .i64 x] _ (at_, x) 1 (by go_simp) ⟨rfl, ⟨show _ ∧ _ from by omega, show _ ∧ _ from by omega⟩⟩ hFp (by omega) (by omega) (by omega) ?_); intro v9 w9 hO9 hC9 hD9)
                  go_roundw
                  case rel =>
                    exact ⟨k + 1, nx + N, pg', us', A ++ [(at_, x)], by omega, by go_num, rfl, by simp; omega, hO9, hsE.ch hD9 (fun q => hnp _ q rfl), t7, hC9 No w hw1 hcN, by have := hD9.size; omega⟩
                  case measure => exact meas_lt (by omega)
        · have hEb : (E != 0) = true := by simpa using hE0
          clear hst hex hE0
          go_wp2_with fail
          with_reducible refine hneed.mono ?_
          rintro e w2 ⟨rfl, hc2⟩
          dsimp only
          go_wp2_with fail
          exact ⟨⟨k + 1, nx, pg, us, A, by omega, by go_num, rfl, by omega, ho.ch0 hc2, hs.ch hc2 (fun q => q), hI, hc.trans hc2, by have := hc2.size; omega⟩, meas_lt (by omega)⟩
      · obtain rfl : k = l.length := by omega
        go_wp2_with fail
        with_reducible refine (fixed10 _ (hn.ch hc (fun q => q))).mono ?_
        rintro e w2 ⟨rfl, hc2⟩
        dsimp only
        go_wp2_with fail
        go_ret
        exact ⟨rfl, hc.trans hc2⟩
end Go.Proofs.YtlmaflhfedbmdaaDoor

/- The law IdsNever: the walk. -/
import Derived.Test.YtinjbonodlkafaaLaw04
set_option linter.unusedVariables false
set_option linter.unusedSimpArgs false
namespace Go.Proofs.Ytinjbonodlkafaa
open Go Go.RowKit

set_option maxRecDepth 100000 in
set_option maxHeartbeats 4000000 in
theorem never04 (w : World) (mo : Int) (a : Option Addr) (c : Nat) (l : List Int) (hm : 0 ≤ mo ∧ mo ≤ 255) (hsl0 : SlR (intRp .i64) No w a c l) (hl : l.length ≤ 9223372036854775807) :
    Calls Try.prog 4 #[.int .u8 mo, .slice a l.length c] w fun e w' => e = .returned (.bool true) ∧ Ch No w w' := by
  by_cases hcut : 100 < l.length
  · have b3 : decide ((l.length : Int) > 100) = true := decide_eq_true (by omega)
    go_enter Try.func4, Try.ntmps4
    go_wp2_with fail
    with_reducible refine (fixed04 w).mono ?_
    rintro e w1 ⟨rfl, hc⟩
    dsimp only
    go_wp2_with fail
    go_ret
    exact ⟨rfl, hc⟩
  · have b3 : decide ((l.length : Int) > 100) = false := decide_eq_false (by omega)
    have hl100 : l.length ≤ 100 := by omega
    clear hcut hl
    have e1 : IntKind.i64.wrap mo = mo := IntWalk.i64_in _ (by omega)
    have hnw := ids_New w mo (show _ ∧ _ from by omega)
    rw [show max mo 0 = mo by omega] at hnw
    go_enter Try.func4, Try.ntmps4
    go_wp2_with fail
    with_reducible refine hnw.mono ?_
    rintro e w1 ⟨b, m, rfl, hB1, hb, hmb, hc1⟩
    clear hnw
    dsimp only
    go_wp2_with fail
    have hC0 : Ch (fun k => w.heap.size ≤ k) w w1 := hc1.ofNo
    go_loopw [6, 24] (fun u v wq => ∃ (i : Nat) (al : AL) (la : Int), i ≤ l.length ∧ v = .int .i64 i ∧ u = .int .i64 la ∧ BookAt wq b m al la mo ∧ (∀ k ∈ aKeys al, 1 ≤ k ∧ k ≤ la) ∧ (0 ≤ la ∧ la ≤ i) ∧ al.length ≤ i ∧ (al.length : Int) ≤ mo ∧ Ch (fun k => w.heap.size ≤ k) w wq) (fun _ v _ => l.length - (intOf v).toNat)
    case atStart => exact ⟨0, [], 0, by omega, rfl, rfl, hB1, by simp [aKeys], by omega, by simp, by simp; omega, hC0⟩
    case round =>
      obtain ⟨i, al, la, hi, rfl, rfl, hB, hbd, hla, hali, halm, hC⟩ := hrel
      by_cases hil : i < l.length
      · obtain ⟨bq, off, rfl, _, _, d0, ix⟩ := ((hsl0.more (F' := fun k => w.heap.size ≤ k) (fun k e => .inr e)).ch hC (fun k e => e)).int_at i hil
        obtain ⟨x, hx⟩ : ∃ z, z = l[i] := ⟨_, rfl⟩
        rw [← hx] at d0 ix
        clear hx
        by_cases hx1 : x < 1
        · have b1 : decide (x ≥ 1) = false := decide_eq_false (by omega)
          have hal0 := ids_All No wr b m al la mo hB (fun k hk => by have := hbd k hk; exact show _ ∧ _ from by omega) (by omega) (fun _ e => e.elim)
          obtain ⟨n, hn⟩ : ∃ n, n = al.length := ⟨_, rfl⟩
          rw [← hn] at hal0 hali halm
          by_cases hfull : mo ≤ (n : Int)
          · have hg := fun W (h : BookAt W b m al la mo) => ids_Give_no W b m al la mo h (by omega)
            have b2 : decide ((n : Int) < mo) = false := decide_eq_false (by omega)
            have HN := Lib.hid hn
            clear hx1 hfull hn
            go_wp2_with fail
            with_reducible refine hal0.mono ?_
            rintro e w4 ⟨qn, cn, rfl, _, hc4⟩
            have hB4 := hB.ch0 hc4
            dsimp only
            go_wp2_with fail
            with_reducible refine (hg w4 hB4).mono ?_
            rintro e w5 ⟨rfl, hc5⟩
            dsimp only
            go_wp2_with fail
            go_roundw
            case rel => exact ⟨i + 1, al, la, by omega, by go_num, rfl, hB4.ch0 hc5, hbd, by omega, by have := HN.out; omega, by have := HN.out; omega, (hC.then0 hc4).then0 hc5⟩
            case measure => exact meas_lt (by omega)
          · have hno : aGet al (la + 1) = none := aGet_none (fun e => by have := hbd _ e; omega)
            have hks : aKeys (aSet al (la + 1) (.agg #[])) = aKeys al ++ [la + 1] := by rw [aKeys_set, hno]; rfl
            have hlen2 : (aSet al (la + 1) (.agg #[])).length = al.length + 1 := by rw [← aKeys_length, hks, List.length_append, aKeys_length]; rfl
            have hin : aGet (aSet al (la + 1) (.agg #[])) (la + 1) = some (.agg #[]) := by rw [aGet_set, if_pos rfl]
            have hg := fun W (h : BookAt W b m al la mo) => ids_Give W b m al la mo h (by omega) (by omega)
            have b2 : decide ((n : Int) < mo) = true := decide_eq_true (by omega)
            have e3 : IntKind.i64.wrap (la + 1) = la + 1 := IntWalk.i64_in _ (by omega)
            obtain ⟨alN, halN⟩ : ∃ z, z = aSet al (la + 1) (.agg #[]) := ⟨_, rfl⟩
            rw [← halN] at hks hlen2 hin
            simp only [← halN] at hg
            have HN := Lib.hid hn; have HF := Lib.hid hfull; have HK := Lib.hid hks; have HL2 := Lib.hid hlen2; have HI := Lib.hid hin
            clear hx1 hfull hn halN hno hks hlen2 hin
            go_wp2_with fail
            with_reducible refine hal0.mono ?_
            rintro e w4 ⟨qn, cn, rfl, _, hc4⟩
            have hB4 := hB.ch0 hc4
            dsimp only
            go_wp2_with fail
            with_reducible refine (hg w4 hB4).mono ?_
            rintro e w5 ⟨rfl, hB5, hc5⟩
            have hlv := ids_Lives w5 b m alN (la + 1) mo (la + 1) hB5 (show _ ∧ _ from by omega)
            rw [HI.out] at hlv
            dsimp only
            go_wp2_with fail
            with_reducible refine hlv.mono ?_
            rintro e w6 ⟨rfl, hc6⟩
            dsimp only [Option.isSome]
            go_wp2_with fail
            go_roundw
            case rel => exact ⟨i + 1, alN, la + 1, by omega, by go_num, rfl, hB5.ch0 hc6, fun k hk => by
              rw [HK.out] at hk
              rcases List.mem_append.1 hk with hk | hk
              · have := hbd k hk; omega
              · rw [List.mem_singleton.1 hk]; omega, by omega, by have := HN.out; have := HL2.out; omega, by have := HN.out; have := HL2.out; have := HF.out; omega, ((hC.then0 hc4).andThen hc5 (fun k e => .inl (by rcases e with e | e <;> (show w.heap.size ≤ k) <;> omega))).then0 hc6⟩
            case measure => exact meas_lt (by omega)
        · have b1 : decide (x ≥ 1) = true := decide_eq_true (by omega)
          have hlv := ids_Lives wr b m al la mo x hB ix
          cases hg : aGet al x with
          | none =>
            rw [hg] at hlv
            have ht := fun W (h : BookAt W b m al la mo) => ids_Take_no W b m al la mo x h ix hg
            have hl2 := fun W (h : BookAt W b m al la mo) => ids_Lives W b m al la mo x h ix
            rw [hg] at hl2
            clear hx1 hg
            go_wp2_with fail
            with_reducible refine hlv.mono ?_
            rintro e w4 ⟨rfl, hc4⟩
            have hB4 := hB.ch0 hc4
            dsimp only [Option.isSome]
            go_wp2_with fail
            with_reducible refine (ht w4 hB4).mono ?_
            rintro e w5 ⟨rfl, hc5⟩
            have hB5 := hB4.ch0 hc5
            dsimp only
            go_wp2_with fail
            with_reducible refine (hl2 w5 hB5).mono ?_
            rintro e w6 ⟨rfl, hc6⟩
            dsimp only [Option.isSome]
            go_wp2_with fail
            go_roundw
            case rel => exact ⟨i + 1, al, la, by omega, by go_num, rfl, hB5.ch0 hc6, hbd, by omega, by omega, halm, ((hC.then0 hc4).then0 hc5).then0 hc6⟩
            case measure => exact meas_lt (by omega)
          | some vv =>
            rw [hg] at hlv
            have ht := fun W (h : BookAt W b m al la mo) => ids_Take W b m al la mo x vv h ix hg
            have hno : aGet (aDel al x) x = none := by rw [aGet_del _ _ _ hB.map.nodup, if_pos rfl]
            have hks : aKeys (aDel al x) = (aKeys al).filter (· != x) := aDel_keys al x hB.map.nodup
            have hlN : (aDel al x).length ≤ al.length := by rw [← aKeys_length, hks, ← aKeys_length]; exact List.length_filter_le _ _
            obtain ⟨alN, halN⟩ : ∃ z, z = aDel al x := ⟨_, rfl⟩
            rw [← halN] at hno hks hlN
            simp only [← halN] at ht
            have HK := Lib.hid hks
            clear hx1 hg halN hks
            go_wp2_with fail
            with_reducible refine hlv.mono ?_
            rintro e w4 ⟨rfl, hc4⟩
            have hB4 := hB.ch0 hc4
            dsimp only [Option.isSome]
            go_wp2_with fail
            with_reducible refine (ht w4 hB4).mono ?_
            rintro e w5 ⟨rfl, hB5, hc5⟩
            have hl2 := ids_Lives w5 b m alN la mo x hB5 ix
            rw [hno] at hl2
            dsimp only
            go_wp2_with fail
            with_reducible refine hl2.mono ?_
            rintro e w6 ⟨rfl, hc6⟩
            dsimp only [Option.isSome]
            go_wp2_with fail
            go_roundw
            case rel => exact ⟨i + 1, alN, la, by omega, by go_num, rfl, hB5.ch0 hc6, fun k hk => by rw [HK.out] at hk; exact hbd k (List.mem_filter.1 hk).1, by omega, by omega, by omega, ((hC.then0 hc4).andThen hc5 (fun k e => .inl (by have : k = m := e; show w.heap.size ≤ k; omega))).then0 hc6⟩
            case measure => exact meas_lt (by omega)
      · obtain rfl : i = l.length := by omega
        have hfx := fixed04 wr
        go_wp2_with fail
        with_reducible refine hfx.mono ?_
        rintro e w4 ⟨rfl, hc4⟩
        have hB4 := hB.ch0 hc4
        dsimp only
        go_wp2_with fail
        with_reducible refine (ids_Last w4 b m al la mo hB4).mono ?_
        rintro e w5 ⟨rfl, rfl⟩
        have hal0 := ids_All No w4 b m al la mo hB4 (fun k hk => by have := hbd k hk; exact show _ ∧ _ from by omega) (by omega) (fun _ e => e.elim)
        obtain ⟨n, hn⟩ : ∃ n, n = al.length := ⟨_, rfl⟩
        rw [← hn] at hal0 hali halm
        have b2 : decide ((n : Int) ≤ mo) = true := decide_eq_true halm
        clear hn halm
        dsimp only
        go_wp2_with fail
        with_reducible refine hal0.mono ?_
        rintro e w5 ⟨qn, cn, rfl, _, hc5⟩
        dsimp only
        go_wp2_with fail
        go_ret
        exact ⟨rfl, (((Ch.refl No w).andThen hC (fun k e => .inr e)).trans hc4).trans hc5⟩
end Go.Proofs.Ytinjbonodlkafaa

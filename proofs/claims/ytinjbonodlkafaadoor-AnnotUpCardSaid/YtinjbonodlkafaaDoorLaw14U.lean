/- Layer 14 (annot): the law AnnotUp: the walk. -/
import Derived.Test.YtinjbonodlkafaaDoorLaw14
set_option linter.unusedVariables false
set_option linter.unusedSimpArgs false
namespace Go.Proofs.YtinjbonodlkafaaDoor
open Go Go.RowKit

set_option maxRecDepth 100000 in
set_option maxHeartbeats 4000000 in
theorem up14 (w : World) (a : Option Addr) (c : Nat) (l : List TAct) (h : SlR tactRp No w a c l) (hW : Wt w) (hl : l.length ≤ 9223372036854775807) :
    Calls Tryd.prog 3 #[.slice a l.length c] w fun e w' => e = .returned (.bool true) ∧ Ch No w w' := by
  by_cases hcut : 60 < l.length
  · have b3 : decide ((l.length : Int) > 60) = true := decide_eq_true (by omega)
    go_enter Tryd.func3, Tryd.ntmps3
    go_wp2_with fail
    with_reducible refine (fixed14 _ hW).mono ?_
    rintro e w1 ⟨rfl, hc⟩
    dsimp only
    go_wp2_with fail
    go_ret
    exact ⟨rfl, hc⟩
  · have b3 : decide ((l.length : Int) > 60) = false := decide_eq_false (by omega)
    have hl60 : l.length ≤ 60 := by omega
    have hgl := hW.lt
    clear hcut hl
    go_enter Tryd.func3, Tryd.ntmps3
    go_wp2_with fail
    with_reducible refine (grown14 No w a c l h hl60).mono ?_
    rintro e w1 ⟨t, m, L, bx, ox, cx, rfl, hT, ok, hL60, _, hm, hc1⟩
    have hW1 := hW.ch0 hc1
    have hwk := tree_Walk No w1 t m l.length L hT ok (by omega) (fun _ e => e.elim)
    have hmw := fun x => (mem_walk ok (k := x)).trans (hasB_true ok.up (k := x)).symm
    have hsl := walk_length ok
    have hi64 := ids_I64 ok 0
    obtain ⟨S, hS⟩ : ∃ z, z = sub L 0 := ⟨_, rfl⟩
    simp only [← hS] at hwk hsl hi64 hmw
    have hS60 : S.length ≤ 60 := by omega
    obtain ⟨hgt, hh, hhn⟩ := ok.high
    have HM := Lib.hid hmw
    clear hS hsl hmw
    dsimp only
    go_wp2_with fail
    with_reducible refine hwk.mono ?_
    rintro e w2 ⟨q, cq, rfl, hq2, hc2⟩
    have hT2 := hT.ch0 hc2
    have hW2 := hW1.ch0 hc2
    clear hwk
    dsimp only
    go_wp2_with fail
    go_loopw [23] (fun i wr => ∃ (k : Nat), k ≤ S.length ∧ i = .int .i64 k ∧ Ch No w2 wr) (fun i _ => S.length - (intOf i).toNat)
    case atStart => exact ⟨0, by omega, rfl, Ch.refl _ _⟩
    case round =>
      obtain ⟨k, hk, rfl, hcr⟩ := hrel
      by_cases hlt2 : k < S.length
      · obtain ⟨b, off, rfl, _, _, d0, ix⟩ := (hq2.ch0 hcr).int_at k hlt2
        have hxm : S[k] ∈ S := List.getElem_mem hlt2
        obtain ⟨x, hx⟩ : ∃ z, z = S[k] := ⟨_, rfl⟩
        rw [← hx] at d0 ix hxm
        have hbx : hasB L x = true := (HM.out x).1 hxm
        have hx0 : x ≠ 0 := by
          obtain ⟨p, hp⟩ := (hasB_true ok.up).1 hbx
          have := (ok.ids _ hp).1
          simp only at this
          omega
        have hTr := hT2.ch0 hcr
        have hWr := hW2.ch0 hcr
        have HBX := Lib.hid hbx
        have HX0 := Lib.hid hx0
        clear hx hxm hbx hx0
        go_wp2_with fail
        go_loopw [7, 8] (fun u v wq => ∃ (id : Int) (done : List Int), v = .int .i64 id ∧ u = .int .i64 (done.length : Nat) ∧ UpTo L hgt x done id ∧ Ch No wr wq) (fun _ v _ => l.length + 1 - hgt (intOf v))
        case atStart => exact ⟨x, [], rfl, rfl, UpTo.start HBX.out HX0.out, Ch.refl _ _⟩
        case round =>
          obtain ⟨id, done, rfl, rfl, hu, hcq⟩ := hrel
          have hdl := hu.length ok
          by_cases hid : id = 0
          · have b1 : (id != 0) = false := by simp [hid]
            rw [hid] at hu
            have htl := hu.finish ok HBX.out
            have htg := annot_Targets No _ t m l.length L 3 x (hTr.ch0 hcq) ok (by omega) (fun _ e => e.elim) (hWr.ch0 hcq) (show _ ∧ _ from by omega)
            rw [htl] at htg
            clear hid htl hu
            go_wp2_with fail
            with_reducible refine htg.mono ?_
            rintro e w5 ⟨q5, c5, rfl, _, hc5⟩
            dsimp only
            go_wp2_with fail
            go_roundw
            case rel => exact ⟨k + 1, by omega, by go_num, (hcr.trans hcq).trans hc5⟩
            case measure => exact meas_lt (by omega)
          · have b1 : (id != 0) = true := by simp [hid]
            have hi := hu.here.resolve_left hid
            obtain ⟨p, hp⟩ := (hasB_true ok.up).1 hi.1
            have hst := hu.step ok hh hid hp
            have hck := annot_Check _ t m l.length L 3 x id (hTr.ch0 hcq) ok (by omega) (hWr.ch0 hcq) (show _ ∧ _ from by omega)
            rw [(chk_up ok HBX.out hi.1).2 hi.2] at hck
            have hpa := fun W (hT : TreeAt W t m L) => tree_Parent W t m L id hT
            rw [(pget_some ok.up).2 hp] at hpa
            dsimp only [Option.getD] at hpa
            have hlt := hh _ hp
            simp only at hlt
            have hle := hhn p
            have hln : (done ++ [id]).length = done.length + 1 := by simp
            obtain ⟨D, hD⟩ : ∃ z, z = done ++ [id] := ⟨_, rfl⟩
            rw [← hD] at hst hln
            have hd60 : done.length ≤ 60 := by omega
            have HLN := Lib.hid hln
            clear hid hi hu hp hD hln hdl
            have e1 : IntKind.i64.wrap ((done.length : Int) + 1) = (done.length : Int) + 1 := IntWalk.i64_in _ (by omega)
            have b2 : decide ((done.length : Int) + 1 > 100) = false := decide_eq_false (by omega)
            go_wp2_with fail
            with_reducible refine hck.mono ?_
            rintro e w5 ⟨rfl, hc5⟩
            dsimp only
            go_wp2_with fail
            with_reducible refine (hpa w5 ((hTr.ch0 hcq).ch0 hc5)).mono ?_
            rintro e w6 ⟨rfl, rfl⟩
            dsimp only
            go_wp2_with fail
            go_roundw
            case rel => exact ⟨p, D, rfl, by rw [HLN.out]; rfl, hst, hcq.trans hc5⟩
            case measure => simp [intOf]; omega
      · obtain rfl : k = S.length := by omega
        go_wp2_with fail
        with_reducible refine (fixed14 _ (hW2.ch0 hcr)).mono ?_
        rintro e w5 ⟨rfl, hc5⟩
        dsimp only
        go_wp2_with fail
        go_ret
        exact ⟨rfl, ((hc1.trans hc2).trans hcr).trans hc5⟩
end Go.Proofs.YtinjbonodlkafaaDoor

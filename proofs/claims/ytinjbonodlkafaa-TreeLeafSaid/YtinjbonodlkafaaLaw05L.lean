/- Layer 5 (tree): the law TreeLeaf: the walk. -/
import Derived.Test.YtinjbonodlkafaaLaw05
set_option linter.unusedVariables false
set_option linter.unusedSimpArgs false
namespace Go.Proofs.Ytinjbonodlkafaa
open Go Go.RowKit

set_option maxRecDepth 100000 in
set_option maxHeartbeats 4000000 in
theorem leaf05 (w : World) (a : Option Addr) (c : Nat) (l : List TAct) (id par : Int) (h : SlR tactRp No w a c l) (i1 : I64 id) (i2 : I64 par) (hl : l.length ≤ 9223372036854775807) :
    Calls Try.prog 10 #[.slice a l.length c, .int .i64 id, .int .i64 par] w fun e w' => e = .returned (.bool true) ∧ Ch No w w' := by
  by_cases hcut : 60 < l.length
  · have b3 : decide ((l.length : Int) > 60) = true := decide_eq_true (by omega)
    go_enter Try.func10, Try.ntmps10
    go_wp2_with fail
    with_reducible refine (fixed05 _).mono ?_
    rintro e w1 ⟨rfl, hc⟩
    dsimp only
    go_wp2_with fail
    go_ret
    exact ⟨rfl, hc⟩
  · have b3 : decide ((l.length : Int) > 60) = false := decide_eq_false (by omega)
    have hl60 : l.length ≤ 60 := by omega
    clear hcut hl
    go_enter Try.func10, Try.ntmps10
    go_wp2_with fail
    with_reducible refine (tree_New w).mono ?_
    rintro e w1 ⟨t, m, rfl, hT1, ht, hm, hc1⟩
    have hnn : ∀ k, One m k → No k ∨ w.heap.size ≤ k := fun k e => .inr (by have : k = m := e; omega)
    dsimp only
    go_wp2_with fail
    go_loopw [22] (fun i wr => ∃ (k : Nat) (L : TRows), k ≤ l.length ∧ i = .int .i64 k ∧ TreeAt wr t m L ∧ TreeOk L k ∧ L.length ≤ k ∧ Ch No w wr) (fun i _ => l.length - (intOf i).toNat)
    case atStart => exact ⟨0, [], by omega, rfl, hT1, TreeOk.nil, by simp, hc1⟩
    case round =>
      obtain ⟨k, L, hk, rfl, hT, ok, hLk, hc⟩ := hrel
      clear hT1 hc1
      by_cases hlt : k < l.length
      · obtain ⟨b, off, rfl, _, d0, d1, d2, ia, ib⟩ := (h.ch0 hc).tact_at k hlt
        obtain ⟨A, hA⟩ : ∃ A, A = l[k] := ⟨_, rfl⟩
        rw [← hA] at d0 d1 d2 ia ib
        clear hA h
        have oka := tAct_ok ok A ia (by omega)
        have hal := tAct_length L A
        obtain ⟨x, p, o⟩ := A
        dsimp only at d0 d1 d2 ia ib
        have hca : Ch No wr (wr.alloc (.cells #[.int .i64 x, .int .i64 p, .bool o] 68)) := (Ch.refl _ _).alloc _
        cases o with
        | true =>
          rw [show tAct L ⟨x, p, true⟩ = tOut L x from rfl] at oka hal
          have hcl := tree_Remove _ t m k L x (hT.ch0 hca) ok (by omega)
          obtain ⟨L2, hL2⟩ : ∃ z, z = (tOut L x).1 := ⟨_, rfl⟩
          rw [← hL2] at oka hal
          simp only [← hL2] at hcl
          clear hL2
          go_wp2_with fail
          with_reducible refine hcl.mono ?_
          rintro e w2 ⟨rfl, hT2, hc2⟩
          dsimp only
          go_wp2_with fail
          go_roundw
          case rel => exact ⟨k + 1, L2, by omega, by go_num, hT2, oka, by omega, (hc.trans hca).andThen hc2 hnn⟩
          case measure => exact meas_lt (by omega)
        | false =>
          rw [show tAct L ⟨x, p, false⟩ = tPut L x p from rfl] at oka hal
          have hcl := tree_Add _ t m k L x p (hT.ch0 hca) ok
          obtain ⟨L2, hL2⟩ : ∃ z, z = (tPut L x p).1 := ⟨_, rfl⟩
          rw [← hL2] at oka hal
          simp only [← hL2] at hcl
          clear hL2
          go_wp2_with fail
          with_reducible refine hcl.mono ?_
          rintro e w2 ⟨rfl, hT2, hc2⟩
          dsimp only
          go_wp2_with fail
          go_roundw
          case rel => exact ⟨k + 1, L2, by omega, by go_num, hT2, oka, by omega, (hc.trans hca).andThen hc2 hnn⟩
          case measure => exact meas_lt (by omega)
      · obtain rfl : k = l.length := by omega
        clear h
        have hlt := hT.lt
        have hwk := tree_Walk (One m) wr t m l.length L hT ok (by omega) (fun k e => by have : k = m := e; omega)
        have hsl := walk_length ok
        have hin := fun x => leaf_in ok (k := id) (p := par) (x := x)
        have hcs := tPut_cases ok id par i1.2 (by omega)
        have hwk0 : ∀ W, TreeAt W t m L → Calls Try.prog 45 #[.pointer (some ⟨t, 0, none⟩)] W fun e w' => ∃ q c, e = .returned (.slice q (sub L 0).length c) ∧ SlR (intRp .i64) No w' q c (sub L 0) ∧ Ch No W w' := fun W hW => tree_Walk No W t m l.length L hW ok (by omega) (fun _ e => e.elim)
        have hL60 : L.length ≤ 60 := by omega
        obtain ⟨S, hS⟩ : ∃ z, z = sub L 0 := ⟨_, rfl⟩
        rw [← hS] at hwk hsl
        simp only [← hS] at hin hwk0
        have hS60 : S.length ≤ 60 := by omega
        have HSE := Lib.hid hsl
        clear hsl
        have HS := Lib.hid hS
        have HIN := Lib.hid hin
        have HCS := Lib.hid hcs
        clear hS hin hcs
        go_wp2_with fail
        with_reducible refine hwk.mono ?_
        rintro e w2 ⟨q, cq, rfl, hq2, hc2⟩
        have hT2 := hT.ch0 hc2
        have hadd := tree_Add w2 t m l.length L id par hT2 ok
        rcases HCS.out with ⟨hne, hsame⟩ | ⟨hput, ok', hid1, hno, hpar⟩
        · rw [hsame] at hadd
          obtain ⟨E, hE⟩ : ∃ z, z = (tPut L id par).2 := ⟨_, rfl⟩
          rw [← hE] at hadd hne
          have b1 : (E != 0) = true := by simp [hne]
          clear hE hne hsame
          dsimp only
          go_wp2_with fail
          with_reducible refine hadd.mono ?_
          rintro e w3 ⟨rfl, hT3, hc3⟩
          dsimp only
          go_wp2_with fail
          with_reducible refine (fixed05 w3).mono ?_
          rintro e w4 ⟨rfl, hc4⟩
          dsimp only
          go_wp2_with fail
          with_reducible refine (hwk0 w4 (hT3.ch0 hc4)).mono ?_
          rintro e w5 ⟨q5, c5, rfl, hq5, hc5⟩
          have hsm := ref04_Same No (One m) w5 q5 q c5 cq S S hq5 (((hq2.chF hc3).ch0 hc4).ch0 hc5) (by omega) (by omega)
          rw [decide_eq_true rfl] at hsm
          dsimp only
          go_wp2_with fail
          with_reducible refine hsm.mono ?_
          rintro e w6 ⟨rfl, hc6⟩
          dsimp only
          go_wp2_with fail
          go_ret
          exact ⟨rfl, (((((hc.trans hc2).andThen hc3 hnn).trans hc4).trans hc5).trans hc6)⟩
        · rw [hput] at hadd
          dsimp only at hadd
          have hout := leaf_out ok ok' hid1 hno hpar
          have hlen' := add_length L id par
          have hsl' := walk_length ok'
          have hpg : pget (addRow L id par) id = some par := (pget_some ok'.up).2 (mem_add.2 (.inl rfl))
          have hi2 := HIN.out
          have hin : ∀ x, x ∈ S → inB (addRow L id par) par x = inB (addRow L id par) id x ∧ inB (addRow L id par) x id = false := fun x hx => hi2 x ok' hid1 hno hpar hx
          obtain ⟨L2, hL2⟩ : ∃ z, z = addRow L id par := ⟨_, rfl⟩
          rw [← hL2] at hadd ok' hout hlen' hsl' hpg hin
          have HO := Lib.hid hout
          have HP := Lib.hid hpg
          have HH := Lib.hid hin
          have HLL := Lib.hid hlen'
          have HSL := Lib.hid hsl'
          clear hL2 hput hid1 hno hpar hout hpg hin hi2 hlen' hsl'
          dsimp only
          go_wp2_with fail
          with_reducible refine hadd.mono ?_
          rintro e w3 ⟨rfl, hT3, hc3⟩
          have hq3 := hq2.chF hc3
          have hC3 := (hc.trans hc2).andThen hc3 hnn
          dsimp only
          go_wp2_with fail
          go_loopw [55] (fun i wr => ∃ (k : Nat), k ≤ S.length ∧ i = .int .i64 k ∧ Ch No w3 wr) (fun i _ => S.length - (intOf i).toNat)
          case atStart => exact ⟨0, by omega, rfl, Ch.refl _ _⟩
          case round =>
            obtain ⟨k, hk, rfl, hcr⟩ := hrel
            by_cases hlt2 : k < S.length
            · obtain ⟨b, off, rfl, _, _, d0, ix⟩ := (hq3.ch0 hcr).int_at k hlt2
              have hxm : S[k] ∈ S := List.getElem_mem hlt2
              obtain ⟨x, hx⟩ : ∃ z, z = S[k] := ⟨_, rfl⟩
              rw [← hx] at d0 ix hxm
              obtain ⟨e1, e2⟩ := HH.out x hxm
              have c1 := fun W (hW : TreeAt W t m L2) => tree_Within W t m _ L2 id x hW ok' (by have := HLL.out; omega)
              have c2 := fun W (hW : TreeAt W t m L2) => tree_Within W t m _ L2 par x hW ok' (by have := HLL.out; omega)
              have c3 := fun W (hW : TreeAt W t m L2) => tree_Within W t m _ L2 x id hW ok' (by have := HLL.out; omega)
              rw [e1] at c2
              rw [e2] at c3
              obtain ⟨I, hI⟩ : ∃ z, z = inB L2 id x := ⟨_, rfl⟩
              simp only [← hI] at c1 c2
              have b1 : (I != I) = false := by cases I <;> rfl
              clear hx hxm e1 e2 hI
              go_wp2_with fail
              with_reducible refine (c1 wr (hT3.ch0 hcr)).mono ?_
              rintro e w4 ⟨rfl, hc4⟩
              dsimp only
              go_wp2_with fail
              with_reducible refine (c2 w4 ((hT3.ch0 hcr).ch0 hc4)).mono ?_
              rintro e w5 ⟨rfl, hc5⟩
              dsimp only
              go_wp2_with fail
              with_reducible refine (c3 w5 (((hT3.ch0 hcr).ch0 hc4).ch0 hc5)).mono ?_
              rintro e w6 ⟨rfl, hc6⟩
              dsimp only
              go_wp2_with fail
              go_roundw
              case rel => exact ⟨k + 1, by omega, by go_num, ((hcr.trans hc4).trans hc5).trans hc6⟩
              case measure => exact meas_lt (by omega)
            · obtain rfl : k = S.length := by omega
              have hTr := hT3.ch0 hcr
              have hqr := hq3.ch0 hcr
              have e7 : IntKind.i64.wrap ((S.length : Int) + 1) = ((S.length + 1 : Nat) : Int) := by rw [IntWalk.i64_in _ (by omega)]; omega
              have c7 := fun W (hW : TreeAt W t m L2) => tree_Walk No W t m _ L2 hW ok' (by have := HLL.out; omega) (fun _ e => e.elim)
              have hl7 : (sub L2 0).length = S.length + 1 := by have := HLL.out; have := HSL.out; have := HSE.out; omega
              rw [hl7] at c7
              have c8 := fun W (hW : TreeAt W t m L2) => tree_Parent W t m L2 id hW
              rw [HP.out] at c8
              dsimp only [Option.getD] at c8
              have c9 := fun W (hW : TreeAt W t m L2) => tree_Remove W t m _ L2 id hW ok' (by have := HLL.out; omega)
              rw [HO.out] at c9
              dsimp only at c9
              have hqF : S.length ≤ 100000 := by omega
              clear hl7
              go_wp2_with fail
              with_reducible refine (fixed05 wr).mono ?_
              rintro e w4 ⟨rfl, hc4⟩
              have hT4 := hTr.ch0 hc4
              dsimp only
              go_wp2_with fail
              with_reducible refine (c7 w4 hT4).mono ?_
              rintro e w5 ⟨q5, c5, rfl, hq5, hc5⟩
              have hT5 := hT4.ch0 hc5
              dsimp only
              go_wp2_with fail
              with_reducible refine (c8 w5 hT5).mono ?_
              rintro e w6 ⟨rfl, rfl⟩
              dsimp only
              go_wp2_with fail
              with_reducible refine (c9 w5 hT5).mono ?_
              rintro e w7 ⟨rfl, hT7, hc7⟩
              dsimp only
              go_wp2_with fail
              with_reducible refine (hwk0 w7 hT7).mono ?_
              rintro e w8 ⟨q8, c8', rfl, hq8, hc8⟩
              have hsm := ref04_Same No (One m) w8 q8 q c8' cq S S hq8 ((((hqr.ch0 hc4).ch0 hc5).chF hc7).ch0 hc8) hqF hqF
              rw [decide_eq_true rfl] at hsm
              dsimp only
              go_wp2_with fail
              with_reducible refine hsm.mono ?_
              rintro e w9 ⟨rfl, hc9⟩
              dsimp only
              go_wp2_with fail
              go_ret
              exact ⟨rfl, ((((hC3.trans hcr).trans hc4).trans hc5).andThen hc7 hnn).trans hc8 |>.trans hc9⟩
end Go.Proofs.Ytinjbonodlkafaa

/- Law ArenaAgain: its inner function, which places all things. -/
import Derived.Test.YtpldogmamifdpaaDoorArena5
set_option linter.unusedVariables false
set_option linter.unusedSimpArgs false
namespace Go.Proofs.YtpldogmamifdpaaDoor
open Go Go.RowKit

set_option maxRecDepth 100000 in
set_option maxHeartbeats 4000000 in
theorem place11 (w : World) (base b p s p0 g m h Bs Ba : Nat) (rv tv : Value) (s0 : S11) (W : List Int) (a : Option Addr) (c : Nat) (l : List Int)
    (ha : ArenaAt w base b (.pointer (some ⟨s, 0, none⟩)) p s0.pg s0.us rv tv s0.R s0.T) (hk : PagesAt w s p0 g m h s0.x W) (hn : Nw w)
    (hap : ∀ k, foot b p rv tv k → k ≠ s ∧ k ≠ p0 ∧ k ≠ g ∧ k ≠ m ∧ k ≠ h) (hnb : 0 < base ∧ 0 ≠ g ∧ 0 ≠ h)
    (hl : l.length ≤ 60) (hR : s0.R.length ≤ 1000) (hT : s0.T.length ≤ 1000)
    (hsl : SlR (intRp .i64) (fun k => foot b p rv tv k ∨ k = g ∨ k = h) w a c l)
    (cs : w.cell? ⟨Bs, 0, none⟩ = some (.slice a l.length c)) (ca : w.cell? ⟨Ba, 0, none⟩ = some (.pointer (some ⟨b, 0, none⟩)))
    (hBs : ¬ foot b p rv tv Bs ∧ Bs ≠ g ∧ Bs ≠ h) (hBa : ¬ foot b p rv tv Ba ∧ Ba ≠ g ∧ Ba ≠ h) :
    Calls Tryd.prog 15 #[.pointer (some ⟨Bs, 0, none⟩), .pointer (some ⟨Ba, 0, none⟩)] w fun e w' => ∃ v out rv' tv' s' W', e = .returned v ∧ OwnR (pairRp .i64) w.heap.size 37 No w' v out ∧
      ArenaAt w' base b (.pointer (some ⟨s, 0, none⟩)) p s'.pg s'.us rv' tv' s'.R s'.T ∧ PagesAt w' s p0 g m h s'.x W' ∧ Ch (fun k => foot b p rv tv k ∨ k = g ∨ k = h) w w' ∧
      (∀ k, foot b p rv' tv' k → foot b p rv tv k ∨ w.heap.size ≤ k) ∧ (∀ k, v.ownBlock = some k → ¬ foot b p rv' tv' k) ∧ Reach l s0 l.length out s' := by
  have hfb := ha.foot_bd
  have hkl := hk.lt
  have hbase : base ≤ w.heap.size := by have := hfb b (.inl rfl); omega
  go_enter Tryd.func15, Tryd.ntmps15
  go_wp2_with fail
  go_loopw [3, 10] (fun v i wr => ∃ (k : Nat) (out : List (Int × Int)) (rv1 tv1 : Value) (s1 : S11) (W1 : List Int), k ≤ l.length ∧ i = .int .i64 k ∧ OwnR (pairRp .i64) w.heap.size 37 No wr v out ∧ ArenaAt wr base b (.pointer (some ⟨s, 0, none⟩)) p s1.pg s1.us rv1 tv1 s1.R s1.T ∧ PagesAt wr s p0 g m h s1.x W1 ∧ Ch (fun k => foot b p rv tv k ∨ k = g ∨ k = h) w wr ∧ (∀ k, foot b p rv1 tv1 k → foot b p rv tv k ∨ w.heap.size ≤ k) ∧ (∀ k, v.ownBlock = some k → ¬ foot b p rv1 tv1 k) ∧ Reach l s0 k out s1) (fun _ i _ => l.length - (intOf i).toNat)
  case atStart => exact ⟨0, [], rv, tv, s0, W, by omega, rfl, OwnR.nilR _ _ _ _ _, ha, hk, Ch.refl _ _, fun k q => .inl q, fun k q => by simp [Value.ownBlock] at q, rfl, rfl⟩
  case round =>
    obtain ⟨k, out, rv1, tv1, s1, W1, hk1, rfl, ho, ha1, hp1, hc, hf1, hof, hre⟩ := hrel
    have cs1 := hc.cell cs (fun q => by rcases q with q | q | q; exact hBs.1 q; exact hBs.2.1 q; exact hBs.2.2 q)
    have ca1 := hc.cell ca (fun q => by rcases q with q | q | q; exact hBa.1 q; exact hBa.2.1 q; exact hBa.2.2 q)
    have hszr := hc.size
    have hrb := hre.bd
    by_cases hlt : k < l.length
    · obtain ⟨bq, off, rfl, _, _, d0, ix⟩ := (hsl.chF hc).int_at k hlt
      have hgd : l.getD k 0 = l[k] := by simp [List.getD_eq_getElem?_getD, hlt]
      obtain ⟨x, hx⟩ : ∃ x, x = l[k] := ⟨_, rfl⟩
      rw [← hx] at d0 ix hgd
      have hnr := hn.ch hc (fun q => by
        rcases q with q | q | q
        · have := (hfb _ q).1; omega
        · exact hnb.2.1 q
        · exact hnb.2.2 q)
      have hap1 : ∀ k, foot b p rv1 tv1 k → k ≠ s ∧ k ≠ p0 ∧ k ≠ g ∧ k ≠ m ∧ k ≠ h := fun k q => by
        rcases hf1 k q with r | r
        · exact hap k r
        · omega
      have hal := arena_Alloc wr base b p s p0 g m h _ _ _ _ _ _ _ _ x ha1 hp1 hnr ix hap1 hnb (by omega) (by omega)
      have HGD := Lib.hid hgd
      clear hx hgd
      go_wp2_with fail
      with_reducible refine hal.mono ?_
      rintro e w2 ⟨A, E, x', W', pg', us', rv', tv', R', T', rfl, ha2, hp2, hc2, hf2, hto⟩
      have hax : AllocX s1 x A E ⟨x', pg', us', R', T'⟩ := ⟨W1, W', hto⟩
      have hb2 := hax.bd
      have hAb : I64 A := by
        rcases hto with ⟨_, h2, _⟩ | ⟨_, _, h2, _⟩ | ⟨_, _, _, h2, _⟩ | ⟨_, _, j, hfj, h2, _⟩
        · rw [h2]; exact (show _ ∧ _ from by omega)
        · have := placeA_bd (size := x) (page := 0) ha1.plan.ok (by omega)
          rw [h2]; exact (show _ ∧ _ from by omega)
        · rw [h2]; exact (show _ ∧ _ from by omega)
        · have h3 := hfj.1.1
          have h4 := hp1.le
          have := placeA_bd (size := x) (page := (j : Int)) ha1.plan.ok (by omega)
          rw [h2]; exact (show _ ∧ _ from by omega)
      have ho2 := ho.aside hc2 (fun k q r => by
        rcases r with r | r | r
        · exact hof k q r
        · have := (ho.blk k q).1; omega
        · have := (ho.blk k q).1; omega)
      have hc2w : Ch (fun k => foot b p rv tv k ∨ k = g ∨ k = h) w w2 := hc.andThen hc2 (fun k q => by
        rcases q with q | q | q
        · rcases hf1 k q with r | r
          · exact .inl (.inl r)
          · exact .inr r
        · exact .inl (.inr (.inl q))
        · exact .inl (.inr (.inr q)))
      have hof2 : ∀ k, u3.ownBlock = some k → ¬ foot b p rv' tv' k := fun k q r => by
        rcases hf2 k r with r | r
        · exact hof k q r
        · have := (ho.blk k q).2; omega
      have hsz2 := hc2.size
      have HLo := Lib.hid (show (out ++ [(A, E)]).length = k + 1 by rw [List.length_append, hrb.1]; rfl)
      have hrb1 := hrb.1
      clear hal hto
      dsimp only
      go_wp2_with (at_builtin; go_loud (refine wpL_pushK rfl _ _ _ rfl w.heap.size 37 (.agg #[.int .i64 0, .int .i64 0]) 2 16 Tryd.underlying35 infoRun rfl (by decide) (pairRp .i64) rfl No u3 out rfl ho2 [.int .i64 A, .int .i64 E] _ (A, E) 1 (by go_simp) ⟨rfl, ⟨hAb, show _ ∧ _ from by omega⟩⟩ (fun _ q => q.elim) (by omega) (by omega) (by omega) ?_); intro v9 w9 ho9 hc9 hk9)
      go_roundw
      case rel =>
        have hfw2 := ha2.foot_bd
        have hpl2 := hp2.lt
        have hng : ∀ k, u3.ownBlock = some k → k ≠ s ∧ k ≠ p0 ∧ k ≠ g ∧ k ≠ m ∧ k ≠ h := fun k q => by have := (ho.blk k q).1; omega
        refine ⟨k + 1, _, rv', tv', ⟨x', pg', us', R', T'⟩, W', by omega, by go_num, ho9, ha2.ch hc9 (fun k q r => hof2 k r q), hp2.ch hc9 (fun q => (hng _ q).1 rfl) (fun q => (hng _ q).2.1 rfl) (fun q => (hng _ q).2.2.1 rfl) (fun q => (hng _ q).2.2.2.1 rfl) (fun q => (hng _ q).2.2.2.2 rfl), hc2w.andThen hc9 (fun k q => .inr (ho.blk k q).1), fun k q => ?_, fun k q r => ?_, out, s1, A, E, hre, by rw [HGD.out]; exact hax, rfl⟩
        · rcases hf2 k q with r | r
          · exact hf1 k r
          · exact .inr (by omega)
        · rcases hk9 k q with q' | q'
          · exact hof2 k q' r
          · have := (hfw2 k r).2; omega
      case measure => exact meas_lt (by omega)
    · obtain rfl : k = l.length := by omega
      go_wp2_with fail
      go_ret
      exact ⟨_, out, rv1, tv1, s1, W1, rfl, ho, ha1, hp1, hc, hf1, hof, hre⟩
end Go.Proofs.YtpldogmamifdpaaDoor

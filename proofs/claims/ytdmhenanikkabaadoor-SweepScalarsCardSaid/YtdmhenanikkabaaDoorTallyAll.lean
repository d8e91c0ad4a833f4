/- Layer 15 (tally): All. -/
import Derived.Test.YtdmhenanikkabaaDoorTally
import Derived.Test.YtdmhenanikkabaaDoorSorted
set_option linter.unusedVariables false
set_option linter.unusedSimpArgs false
namespace Go.Proofs.YtdmhenanikkabaaDoor
open Go Go.RowKit

theorem infoRun : (Tryd.prog.info? 41).map (fun i => (i.zero, i.size, i.bytes)) = some (some (.agg #[.int .i64 0, .int .i64 0]), 2, 16) := by kernel_rfl

theorem rows_keys {L : Rows} {al : AL} (h : Rising L) (hn : (aKeys al).Nodup) (hg : ∀ k, aGet al k = if cnt L k = 0 then none else some (.int .i64 (cnt L k))) : sorted (aKeys al) = L.map (·.1) := by
  refine sorted_eq hn (List.pairwise_map.2 h.up) (fun k => ?_)
  rw [aKeys_mem, hg k, List.mem_map]
  constructor
  · intro e
    by_cases h0 : cnt L k = 0
    · rw [if_pos h0] at e; cases e
    · exact ⟨_, cnt_mem h0, rfl⟩
  · rintro ⟨x, hx, rfl⟩
    have h1 := mem_cnt h x hx
    have h2 := h.ok x hx
    rw [if_neg (by omega)]
    rfl

set_option maxRecDepth 100000 in
theorem tally_All (F : Nat → Prop) (w : World) (t m : Nat) (L : Rows) (h : TallyAt w t m L) (hl : L.length ≤ 100000) (hF : ∀ k, F k → k < w.heap.size) :
    Calls Tryd.prog 15 #[.pointer (some ⟨t, 0, none⟩)] w fun e w' => ∃ q c, e = .returned (.slice q L.length c) ∧ SlR (pairRp .i64) F w' q c L ∧ Ch No w w' := by
  have c0 := cellOf h.head 0 rfl
  have hbd : ∀ x ∈ L, I64 x.1 ∧ I64 x.2 := fun x hx => by have := h.rise.ok x hx; exact ⟨show _ ∧ _ from by omega, show _ ∧ _ from by omega⟩
  obtain ⟨al, hm, hg⟩ := h.map
  have hks := rows_keys h.rise hm.nodup hg
  have hlen : al.length = L.length := by have := congrArg List.length hks; rw [sorted_length, aKeys_length, List.length_map] at this; exact this
  have hkI : ∀ k ∈ aKeys al, I64 k := fun k hk => by
    have h1 := mem_sorted.2 hk
    rw [hks] at h1
    obtain ⟨x, hx, rfl⟩ := List.mem_map.1 h1
    exact (hbd x hx).1
  have hK := maps_Keys w (some m)
  have hS := slices_Sorted_keys No w m al hm hkI (by omega) (fun _ q => q.elim)
  rw [hks, hlen] at hS
  have hcA : Ch No w (w.alloc (.cells #[.map (some m)] 54)) := (Ch.refl _ _).alloc _
  have hsz : w.heap.size ≤ (w.alloc (.cells #[.map (some m)] 54)).heap.size := hcA.size
  clear hm hg hks hlen hkI
  go_enter Tryd.func15, Tryd.ntmps15
  go_wp2_with fail
  with_reducible refine hK.mono ?_
  rintro e w1 ⟨rfl, rfl⟩
  dsimp only
  go_wp2_with fail
  with_reducible refine hS.mono ?_
  rintro e w3 ⟨q3, c3, rfl, hs3, hc3⟩
  have hC3 := hc3
  have hs3' := hs3.more (F' := fun k => w3.heap.size ≤ k) (fun k q => .inr q)
  obtain ⟨B, hB⟩ : ∃ z, z = w3.heap.size := ⟨_, rfl⟩
  rw [← hB] at hs3'
  have hsz3 := hC3.size
  rw [← hB] at hsz3
  have HB := Lib.hid hB
  clear hB hs3
  clear hS hK c0
  dsimp only
  go_wp2_with fail
  have hlt := h.lt
  go_loopw [3, 13] (fun v u wq => ∃ i : Nat, i ≤ L.length ∧ u = .int .i64 i ∧ OwnR (pairRp .i64) B 41 F wq v (L.take i) ∧ B ≤ wq.heap.size ∧ SlR (intRp .i64) (fun k => B ≤ k) wq q3 c3 (L.map (·.1)) ∧ TallyAt wq t m L ∧ Ch No w wq) (fun _ u _ => L.length - (intOf u).toNat)
  case atStart => exact ⟨0, by omega, rfl, OwnR.nilR _ _ _ _ _, by rw [HB.out]; omega, hs3', h.ch0 hC3, hC3⟩
  case round =>
    obtain ⟨i, hi, rfl, ho, hBr, hsl, hT, hC⟩ := hrel
    by_cases hlt : i < L.length
    · obtain ⟨bq, off, rfl, _, _, d0, _⟩ := hsl.int_at i (by simpa using hlt)
      have hx1 : (L.map (·.1))[i]'(by simpa using hlt) = L[i].1 := by simp
      rw [hx1] at d0
      have htk : L.take (i + 1) = L.take i ++ [L[i]] := List.take_succ_eq_append_getElem hlt
      have hxm : L[i] ∈ L := List.getElem_mem hlt
      have hx2 := mem_cnt hT.rise _ hxm
      have hxb := hbd _ hxm
      obtain ⟨x, hx⟩ : ∃ z, z = L[i] := ⟨_, rfl⟩
      rw [← hx] at d0 htk hx2 hxb
      obtain ⟨k, n⟩ := x
      dsimp only at d0 hx2 hxb
      have e0 := cellOf hT.head 0 rfl
      have hlk := tally_look hT k
      rw [hx2] at hlk
      have hll : (L.take i).length = i := by rw [List.length_take]; omega
      have HT := Lib.hid htk; have HX := Lib.hid hx2; have HL := Lib.hid hll
      clear htk hx hx2 hx1 hxm hll
      go_wp2_with (at_builtin; go_loud (refine wpL_push rfl _ _ _ rfl B 41 (.agg #[.int .i64 0, .int .i64 0]) 2 16 Tryd.underlying31 infoRun rfl (by decide) (pairRp .i64) rfl F _ (L.take i) rfl ho [.int .i64 k, .int .i64 n] _ (k, n) 1 (by go_simp) ⟨rfl, hxb⟩ (fun k q => by have := hF k q; omega) (by rw [HL.out]; omega) (by rw [HL.out]; omega) hBr ?_); intro v9 w9 ho9 hg9 hk9)
      go_roundw
      case rel =>
        rw [← HT.out] at ho9
        exact ⟨i + 1, by omega, by go_num, ho9, by have := hk9.size; omega, hsl.ch hk9 (fun k z => (ho.blk _ z).1), hT.ch hk9 (fun z => by have := (ho.blk _ z).1; omega) (fun z => by have := (ho.blk _ z).1; omega), hg9 No w hsz3 hC⟩
      case measure => exact meas_lt (by omega)
    · obtain rfl : i = L.length := by omega
      rw [List.take_length] at ho
      go_wp2_with fail
      go_ret
      obtain ⟨q, c, hv, hs⟩ := ho.sl (fun k q => by have := hF k q; omega)
      exact ⟨q, c, by rw [hv]; rfl, hs, hC⟩
end Go.Proofs.YtdmhenanikkabaaDoor

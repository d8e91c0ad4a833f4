/- The document's answer for layer 5 (tree): Walk. -/
import Derived.Test.YtinjbonodlkafaaRef05d
import Derived.Test.YtinjbonodlkafaaRef04
set_option linter.unusedVariables false
set_option linter.unusedSimpArgs false
namespace Go.Proofs.Ytinjbonodlkafaa
open Go Go.RowKit

/-- 'append(s, x...)' in a list: what the new row owns is known. -/
theorem wpL_appendK {α : Type} {P : Program} {w : World} {ops : Array Oper} {rest : List Oper} {o : Oper} {a : Act} {Q : Exit → Act → World → Prop}
    (hg : o.guard = none) (s x : Operand) (t : TypeId) (hop : o.op = .call { callee := .builtin .append, args := #[s, x], argTypes := #[t, t] })
    (base : Nat) (e : TypeId) (z : Value) (size bytes : Nat) (h1 : P.underlying t = some (.slice e))
    (hrow : (P.info? e).map (fun i => (i.zero, i.size, i.bytes)) = some (some z, size, bytes)) (hzs : z.cells.size = size) (hsz : 0 < size)
    (er : Rp α) (hen : er.n = size) (F : Nat → Prop) (v : Value) (l : List α) (hs : a.eval s = v) (hown : OwnR er base e F w v l)
    (ad : Option Addr) (c : Nat) (l2 : List α) (hx : a.eval x = .slice ad l2.length c) (hl2 : SlR er (fun k => F k ∨ v.ownBlock = some k) w ad c l2)
    (h63 : l.length + l2.length ≤ 9223372036854775807) (hbytes : (l.length + l2.length) * bytes ≤ 140737488355328) (hbase : base ≤ w.heap.size)
    (h : ∀ v' w', OwnR er base e F w' v' (l ++ l2) → Ch (fun k => v.ownBlock = some k) w w' → (∀ k, v'.ownBlock = some k → v.ownBlock = some k ∨ w.heap.size ≤ k) → wpList P ops Q rest (a.put o.dst v') w') :
    wpList P ops Q (o :: rest) a w := by
  refine wpList_plain hg fun K hK' => ?_
  obtain ⟨v', w', hrun, h2, h3, h4, h5⟩ := exec_append (ρ := a.eval) s x t hop base e z size bytes h1 hrow hzs hsz er hen F v l hs hown ad c l2 hx hl2 h63 hbytes hbase
  unfold Oper.wp
  rw [hrun]
  exact hK' _ _ (h v' w' h2 h3 h4)

theorem flat_take {ks : List Int} {f : Int → List Int} {i : Nat} (h : i < ks.length) : (ks.take (i + 1)).flatMap f = (ks.take i).flatMap f ++ f ks[i] := by
  rw [List.take_succ_eq_append_getElem h, List.flatMap_append]
  simp
theorem flat_len (ks : List Int) (f : Int → List Int) (i : Nat) : ((ks.take i).flatMap f).length ≤ (ks.flatMap f).length := by
  have : ks.flatMap f = (ks.take i).flatMap f ++ (ks.drop i).flatMap f := by rw [← List.flatMap_append, List.take_append_drop]
  rw [this, List.length_append]
  omega

set_option maxRecDepth 100000 in
theorem ref05_Walk (L : TRows) (n : Nat) (ok : TreeOk L n) (hL : L.length ≤ 100000) : ∀ (id : Int) (F : Nat → Prop) (w : World) (q : Option Addr) (c : Nat), SlR (pairRp .i64) No w q c L → (∀ k, F k → k < w.heap.size) →
    Calls Try.prog 42 #[.slice q L.length c, .int .i64 id] w fun e w' => ∃ q' c', e = .returned (.slice q' (sub L id).length c') ∧ SlR (intRp .i64) F w' q' c' (sub L id) ∧ Ch No w w' := by
  refine tree_ind ok (fun id ih F w q c h hF => ?_)
  obtain ⟨B, hB⟩ : ∃ z, z = w.heap.size := ⟨_, rfl⟩
  have hl0 := h.more (F' := fun k => B ≤ k) (fun k q => .inr (by omega))
  obtain ⟨w1, hw1⟩ : ∃ z, z = w.alloc (.cells #[] 3) := ⟨_, rfl⟩
  have hc1 : Ch No w w1 := by rw [hw1]; exact (Ch.refl _ _).alloc _
  have hs1 : w1.heap.size = B + 1 := by rw [hw1, hB]; simp
  have ho1 : OwnR (intRp .i64) B 3 No w1 (.slice (some ⟨B, 0, none⟩) 0 0) [] := by rw [hw1, hB]; exact OwnR.lit0 (Nat.le_refl _)
  have hkids := ref05_Kids (fun k => k = B) w1 q c L id ((hl0.ch0 hc1).more (F' := fun k => k = B) (fun k e => .inl (Nat.le_of_eq e.symm))) hL (fun k e => by omega)
  have hsub := sub_eq ok id
  have hlen := Nat.le_trans (subT_length ok id) hL
  have hkl := Nat.le_trans (kids_length L id) hL
  have hkk : ∀ k ∈ kids L id, I64 k := fun k hk => ids_I64 ok id k ((mem_sub ok).2 ⟨k, hk, .inl rfl⟩)
  obtain ⟨ks, hks⟩ : ∃ z, z = kids L id := ⟨_, rfl⟩
  obtain ⟨f, hf⟩ : ∃ f : Int → List Int, f = fun k => k :: sub L k := ⟨_, rfl⟩
  have hfe : ∀ k, f k = k :: sub L k := fun k => by rw [hf]
  rw [← hks] at hkids hsub ih hkk hkl
  rw [← hf] at hsub
  rw [hsub] at hlen ⊢
  have htl := flat_len ks f
  obtain ⟨SB, hSB⟩ : ∃ z, z = ks.flatMap f := ⟨_, rfl⟩
  rw [← hSB] at htl hlen ⊢
  have HSB := Lib.hid hSB
  have HB := Lib.hid hB
  have HW1 := Lib.hid hw1
  have HTL := Lib.hid htl
  have HFE := Lib.hid hfe
  have HS1 := Lib.hid hs1
  clear hks hsub hf hSB hw1 hB htl hfe hs1
  go_enter Try.func42, Try.ntmps42
  go_wp2_with fail
  rw [← HW1.out, ← HB.out]
  with_reducible refine hkids.mono ?_
  rintro e w2 ⟨qk, ck, rfl, hk2, hc2⟩
  obtain ⟨B2, hB2⟩ : ∃ z, z = w2.heap.size := ⟨_, rfl⟩
  have hBB : B + 1 ≤ B2 := by have := hc2.size; have := HS1.out; omega
  obtain ⟨G0, hG⟩ : ∃ G : Nat → Prop, G = fun k => k = B ∨ B2 ≤ k := ⟨_, rfl⟩
  have hGB : ∀ k, B2 ≤ k → G0 k := fun k e => by rw [hG]; exact .inr e
  have hG0 : G0 B := by rw [hG]; exact .inl rfl
  have hG0B : ∀ k, G0 k → B ≤ k := fun k e => by rw [hG] at e; rcases e with e | e <;> omega
  have hk2' := hk2.more (F' := G0) (fun k e => by
    rw [hG] at e
    rcases e with e | e
    · exact .inl e
    · exact .inr (by omega))
  have HB2' := Lib.hid hB2
  clear hB2 hG
  dsimp only
  go_wp2_with fail
  go_loopw [5, 7] (fun v u wq => ∃ (i : Nat), i ≤ ks.length ∧ u = .int .i64 i ∧ OwnR (intRp .i64) B 3 No wq v ((ks.take i).flatMap f) ∧ (∀ k, v.ownBlock = some k → G0 k) ∧ B2 ≤ wq.heap.size ∧ SlR (pairRp .i64) (fun k => B ≤ k) wq q c L ∧ SlR (intRp .i64) G0 wq qk ck ks ∧ Ch No w wq) (fun _ u _ => ks.length - (intOf u).toNat)
  case atStart => exact ⟨0, by omega, rfl, ho1.ch0 hc2, fun k e => by have : B = k := (by simpa [Value.ownBlock] using e); rw [← this]; exact hG0, by have := HB2'.out; omega, (hl0.ch0 hc1).ch0 hc2, hk2', hc1.trans hc2⟩
  case round =>
    obtain ⟨i, hi, rfl, ho, hG5, hB2r, hsl, hkr, hC⟩ := hrel
    have HB2 := Lib.hid (show B ≤ B2 from by omega)
    by_cases hlt : i < ks.length
    · obtain ⟨bk, off, rfl, hbk, _, d0, hkid⟩ := hkr.int_at i hlt
      have hft := flat_take (f := f) hlt
      have hkm : ks[i] ∈ ks := List.getElem_mem hlt
      have hl1 := HTL.out i
      have hl2 := HTL.out (i + 1)
      obtain ⟨kid, hx⟩ : ∃ z, z = ks[i] := ⟨_, rfl⟩
      rw [← hx] at d0 hkid hft hkm
      rw [HFE.out] at hft
      obtain ⟨T, hT⟩ : ∃ z, z = (ks.take i).flatMap f := ⟨_, rfl⟩
      rw [← hT] at ho hft hl1
      have hT7 : T.length + 1 + (sub L kid).length ≤ 100000 := by
        have := congrArg List.length hft
        simp at this hl2
        omega
      have HT := Lib.hid hft
      obtain ⟨wd, hwd⟩ : ∃ z, z = wr.drew := ⟨_, rfl⟩
      have hcd : Ch No wr wd := by rw [hwd]; exact (Ch.refl _ _).drew
      have KS : ∀ W, Ch G0 wd W → W.cell? ⟨bk, off + i, none⟩ = some (.int .i64 kid) := fun W hc => hc.cell (hcd.cell d0 (fun q => q)) hbk
      have ho := ho.ch0 hcd
      have hB2d : B2 ≤ wd.heap.size := by have := hcd.size; omega
      clear hx hT hft hl1 hl2
      go_wp2_with fail
      refine wp_region_tailH (S := (fun w' : World => w'.cell? ⟨bk, off + i, none⟩ = some (.int .i64 kid))) 13 (by kernel_rfl) (by decide) (by rw [← hwd]; exact KS _ (Ch.refl _ _)) (fun hHeld => ?_)
      rw [← hwd] at hHeld ⊢
      have HWD := Lib.hid hwd
      clear hwd
      refine wpAnyT_take (i := 0) (v := ?_) (by simp only [List.getElem?_toArray, List.getElem?_cons_zero, List.getElem?_cons_succ]; exact rfl) (by kernel_rfl) (by kernel_rfl) (by kernel_rfl) (by kernel_rfl) (by intro _ _ _ h; exact h) (Or.inl ⟨by rfl, ?_⟩) (by assumption) ?_
      rotate_left
      · intro w hSw
        (try dsimp only at hSw)
        go_simp
        try (with_reducible rfl)
      try simp only [Act.put, List.setIfInBounds_toArray, List.set_cons_zero, List.set_cons_succ]
      refine wpAnyT_take (i := 1) (v := ?_) (by simp only [List.getElem?_toArray, List.getElem?_cons_zero, List.getElem?_cons_succ]; exact rfl) (by kernel_rfl) (by kernel_rfl) (by kernel_rfl) (by kernel_rfl) (by intro _ _ _ h; exact h) (Or.inl ⟨by rfl, ?_⟩) (by assumption) ?_
      rotate_left
      · intro w hSw
        (try dsimp only at hSw)
        go_simp
        try (with_reducible rfl)
      try simp only [Act.put, List.setIfInBounds_toArray, List.set_cons_zero, List.set_cons_succ]
      refine wpAnyT_take (i := 2) (v := ?_) (by simp only [List.getElem?_toArray, List.getElem?_cons_zero, List.getElem?_cons_succ]; exact rfl) (by kernel_rfl) (by kernel_rfl) (by kernel_rfl) (by kernel_rfl) (by intro _ _ _ h; exact h) (Or.inl ⟨by rfl, ?_⟩) (by assumption) ?_
      rotate_left
      · intro w hSw
        (try dsimp only at hSw)
        go_simp
        try (with_reducible rfl)
      try simp only [Act.put, List.setIfInBounds_toArray, List.set_cons_zero, List.set_cons_succ]
      refine wpAnyT_take (i := 3) (v := ?_) (by simp only [List.getElem?_toArray, List.getElem?_cons_zero, List.getElem?_cons_succ]; exact rfl) (by kernel_rfl) (by kernel_rfl) (by kernel_rfl) (by kernel_rfl) (by intro _ _ _ h; exact h) (Or.inl ⟨by rfl, ?_⟩) (by assumption) ?_
      rotate_left
      · intro w hSw
        (try dsimp only at hSw)
        go_simp
        try (with_reducible rfl)
      try simp only [Act.put, List.setIfInBounds_toArray, List.set_cons_zero, List.set_cons_succ]
      refine wpAnyT_take (i := 4) (v := ?_) (by simp only [List.getElem?_toArray, List.getElem?_cons_zero, List.getElem?_cons_succ]; exact rfl) (by kernel_rfl) (by kernel_rfl) (by kernel_rfl) (by kernel_rfl) (by intro _ _ _ h; exact h) (Or.inl ⟨by rfl, ?_⟩) (by assumption) ?_
      rotate_left
      · intro w hSw
        (try dsimp only at hSw)
        go_simp
        try (with_reducible rfl)
      try simp only [Act.put, List.setIfInBounds_toArray, List.set_cons_zero, List.set_cons_succ]
      refine wpAnyT_take (i := 7) (v := ?_) (by simp only [List.getElem?_toArray, List.getElem?_cons_zero, List.getElem?_cons_succ]; exact rfl) (by kernel_rfl) (by kernel_rfl) (by kernel_rfl) (by kernel_rfl) (by intro _ _ _ h; exact h) (Or.inl ⟨by rfl, ?_⟩) (by assumption) ?_
      rotate_left
      · intro w hSw
        (try dsimp only at hSw)
        go_simp
        try (with_reducible rfl)
      try simp only [Act.put, List.setIfInBounds_toArray, List.set_cons_zero, List.set_cons_succ]
      refine wpAnyT_take (i := 8) (v := ?_) (by simp only [List.getElem?_toArray, List.getElem?_cons_zero, List.getElem?_cons_succ]; exact rfl) (by kernel_rfl) (by kernel_rfl) (by kernel_rfl) (by kernel_rfl) (by intro _ _ _ h; exact h) (Or.inl ⟨by rfl, ?_⟩) (by assumption) ?_
      rotate_left
      · intro w hSw
        (try dsimp only at hSw)
        go_simp
        try (with_reducible rfl)
      try simp only [Act.put, List.setIfInBounds_toArray, List.set_cons_zero, List.set_cons_succ]
      refine wpAnyT_take (i := 9) (v := ?_) (by simp only [List.getElem?_toArray, List.getElem?_cons_zero, List.getElem?_cons_succ]; exact rfl) (by kernel_rfl) (by kernel_rfl) (by kernel_rfl) (by kernel_rfl) (by intro _ _ _ h; exact h) (Or.inl ⟨by rfl, ?_⟩) (by assumption) ?_
      rotate_left
      · intro w hSw
        (try dsimp only at hSw)
        go_simp
        try (with_reducible rfl)
      try simp only [Act.put, List.setIfInBounds_toArray, List.set_cons_zero, List.set_cons_succ]
      refine wpAnyT_take (i := 10) (v := ?_) (by simp only [List.getElem?_toArray, List.getElem?_cons_zero, List.getElem?_cons_succ]; exact rfl) (by kernel_rfl) (by kernel_rfl) (by kernel_rfl) (by kernel_rfl) (by intro _ _ _ h; exact h) (Or.inl ⟨by rfl, ?_⟩) (by assumption) ?_
      rotate_left
      · intro w hSw
        (try dsimp only at hSw)
        go_simp
        try (with_reducible rfl)
      try simp only [Act.put, List.setIfInBounds_toArray, List.set_cons_zero, List.set_cons_succ]
      refine wpAnyT_take (i := 11) (v := ?_) (by simp only [List.getElem?_toArray, List.getElem?_cons_zero, List.getElem?_cons_succ]; exact rfl) (by kernel_rfl) (by kernel_rfl) (by kernel_rfl) (by kernel_rfl) (by intro _ _ _ h; exact h) (Or.inl ⟨by rfl, ?_⟩) (by assumption) ?_
      rotate_left
      · intro w hSw
        (try dsimp only at hSw)
        go_simp
        try (with_reducible rfl)
      try simp only [Act.put, List.setIfInBounds_toArray, List.set_cons_zero, List.set_cons_succ]
      refine wpAnyT_ready (rs := [5]) (by kernel_rfl) (by kernel_rfl) ?_
      refine AllReadyT.cons (by simp only [List.getElem?_toArray, List.getElem?_cons_zero, List.getElem?_cons_succ]; exact rfl) (fun K hK => ?_) AllReadyT.nil
      go_simp
      obtain ⟨w5, hw5⟩ : ∃ z, z = wd.alloc (.cells #[.int .i64 kid] 3) := ⟨_, rfl⟩
      obtain ⟨g5, hg5⟩ : ∃ z, z = wd.heap.size := ⟨_, rfl⟩
      have hst : Ch No wd w5 := by rw [hw5]; exact (Ch.refl _ _).alloc _
      have hch : Ch G0 wd w5 := hst.mono (fun _ q => q.elim)
      have hb5 : w5.heap[g5]? = some (.cells #[.int .i64 kid] 3 (0, 0)) := by rw [hw5, hg5]; exact heap_alloc_new _ _
      have ho5 := ho.ch0 hst
      have hlo5 : ∀ k, u5.ownBlock = some k → k < g5 := fun k e => by rw [hg5]; exact (ho.blk k e).2
      have hB5 : B2 ≤ g5 ∧ g5 < w5.heap.size := by rw [hw5, hg5]; simp; omega
      rw [← hw5, ← hg5]
      refine hK.out _ _ (KS _ hch) (fun hHeld => ?_)
      clear hK K hw5 hg5
      try simp only [Act.put, List.setIfInBounds_toArray, List.set_cons_zero, List.set_cons_succ]
      refine wpAnyT_ready (rs := [6]) (by kernel_rfl) (by kernel_rfl) ?_
      refine AllReadyT.cons (by simp only [List.getElem?_toArray, List.getElem?_cons_zero, List.getElem?_cons_succ]; exact rfl) (fun K hK => ?_) AllReadyT.nil
      have hsl5 : SlR (intRp .i64) (fun k => No k ∨ u5.ownBlock = some k) w5 (some ⟨g5, 0, none⟩) 1 [kid] := SlR.lit1 hb5 hkid (fun q => q.elim (fun z => z) (fun z => by have := hlo5 g5 z; omega))
      refine step_append (by rfl) _ _ _ (by rfl) B 3 (.int .i64 0) 1 8 Try.underlying22 infoIntT3 rfl (by decide) (intRp .i64) rfl No u5 T (by rfl) ho5 (some ⟨g5, 0, none⟩) 1 [kid] (by rfl) hsl5 (by simp; omega) (by simp; omega) (by have := HB2.out; omega) ?_
      intro v6 w6 ho6 hst6 hk6 hrk6
      have hch6 : Ch G0 wd w6 := hch.trans (hst6.mono (fun k e => hG5 k e))
      have hG6 : ∀ k, v6.ownBlock = some k → G0 k := fun k e => by
        rcases hk6 k e with q | q
        · exact hG5 k q
        · exact hGB k (by omega)
      have hch := hch6
      refine hK.out _ _ (KS _ hch) (fun hHeld => ?_)
      clear hK K hrk6 hch6
      try simp only [Act.put, List.setIfInBounds_toArray, List.set_cons_zero, List.set_cons_succ]
      refine wpAnyT_ready (rs := [12]) (by kernel_rfl) (by kernel_rfl) ?_
      refine AllReadyT.cons (by simp only [List.getElem?_toArray, List.getElem?_cons_zero, List.getElem?_cons_succ]; exact rfl) (fun K hK => ?_) AllReadyT.nil
      go_simp
      have hs6 := hst6.size
      have hL6 := ((hsl.ch0 hcd).ch hch (fun k e => hG0B k e)).more (F' := No) (fun k q => q.elim)
      have hF6 : ∀ k, (No k ∨ v6.ownBlock = some k) → k < w6.heap.size := fun k e => e.elim (fun z => False.elim z) (fun z => (ho6.blk k z).2)
      go_at_call 42
      (with_reducible refine (ih kid hkm (fun k => No k ∨ v6.ownBlock = some k) w6 q c hL6 hF6).mono ?_)
      rintro e w7 ⟨q7, c7, rfl, hs7, hc7⟩
      (try dsimp only)
      try go_wp2_with fail
      have hch := hch.trans (hc7.mono (fun _ q => q.elim))
      have ho7 := ho6.ch0 hc7
      refine hK.out _ _ (KS _ hch) (fun hHeld => ?_)
      clear hK K
      try simp only [Act.put, List.setIfInBounds_toArray, List.set_cons_zero, List.set_cons_succ]
      refine wpAnyT_tail (by kernel_rfl) ?_
      clear hHeld
      have hl7 : B ≤ w7.heap.size := by have := hch.size; have := HB2.out; have := HWD.out; omega
      obtain ⟨S7, hS7⟩ : ∃ z, z = sub L kid := ⟨_, rfl⟩
      rw [← hS7] at hs7 HT hT7 ⊢
      have HS7 := Lib.hid hS7
      clear hS7
      simp only [List.drop_succ_cons, List.drop_zero]
      refine wpL_appendK rfl _ _ _ rfl B 3 (.int .i64 0) 1 8 Try.underlying22 infoIntT3 rfl (by decide) (intRp .i64) rfl No v6 (T ++ [kid]) rfl ho7 q7 c7 S7 rfl hs7 (by simp; omega) (by simp; omega) hl7 ?_
      intro v8 w8 ho8 hst8 hk8
      go_wp2_with fail
      go_roundw
      case rel => exact ⟨i + 1, by omega, by go_num, by rw [HT.out, List.append_cons]; exact ho8, fun k e => by
        rcases hk8 k e with q | q
        · exact hG6 k q
        · exact hGB k (by have := hch.size; omega), by have := hst8.size; have := hch.size; omega, ((hsl.ch0 hcd).ch hch (fun k e => hG0B k e)).ch hst8 (fun k e => hG0B k (hG6 k e)), ((hkr.ch0 hcd).ch hch (fun k e => e)).ch hst8 (fun k e => hG6 k e), by
        have h7 := hC.trans hcd
        have h8 := h7.andThen hch (fun k e => .inr (by have := hG0B k e; have := HB.out; omega))
        exact h8.andThen hst8 (fun k e => .inr (by have := hG0B k (hG6 k e); have := HB.out; omega))⟩
      case measure => exact meas_lt (by omega)
    · obtain rfl : i = ks.length := by omega
      rw [List.take_length, ← HSB.out] at ho
      go_wp2_with fail
      go_ret
      obtain ⟨q', c', hv, hs⟩ := (OwnR.ofInts (F := F) ho.ints.1 rfl ho.ints.2).sl (fun k e => by have := hF k e; have := HB.out; omega)
      exact ⟨q', c', by rw [hv]; rfl, hs, hC⟩
end Go.Proofs.Ytinjbonodlkafaa

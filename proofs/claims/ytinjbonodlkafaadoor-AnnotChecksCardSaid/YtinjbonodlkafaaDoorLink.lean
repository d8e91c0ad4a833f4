/- A region that draws its order, by relations that may speak of several operations' values (as XConf, but V i looks at all values; of those it may lean on its own and on what the operation waits for). No program text. -/
import Derived.Test.YtinjbonodlkafaaDoorConf2
set_option linter.unusedVariables false
set_option linter.unusedSimpArgs false
namespace Go.Proofs.YtinjbonodlkafaaDoor
open Go Go.RowKit

section
variable {P : Program} {ops : Array Oper} {Q : Exit → Act → World → Prop}

/-- The operations' values, off a frame. -/
def valsOf (ops : Array Oper) (a : Act) : Nat → Value := fun j => match dstOf ops j with | some d => a.tmps.getD d undef | none => undef
def setv (v : Nat → Value) (i : Nat) (u : Value) : Nat → Value := fun k => if k = i then u else v k
theorem setv_same (v : Nat → Value) (i : Nat) (u : Value) : setv v i u i = u := if_pos rfl
theorem setv_ne {v : Nat → Value} {i k : Nat} {u : Value} (h : k ≠ i) : setv v i u k = v k := if_neg h

/-- The state behind the operations that are listed. -/
structure MidL (ops : Array Oper) (V : Nat → (Nat → Value) → World → Prop) (R : (Nat → Bool) → World → Prop) (a0 : Act) (listed : Array Bool) (a : Act) (w : World) : Prop where
  size : listed.size = ops.size
  defers : a.defers = a0.defers
  tmps : a.tmps.size = a0.tmps.size
  done : ∀ i, listed.getD i false = true → V i (valsOf ops a) w
  other : ∀ t, (∀ i, listed.getD i false = true → dstOf ops i ≠ some t) → a.tmps.getD t undef = a0.tmps.getD t undef
  rel : R (fun k => listed.getD k false) w
  closed : ∀ j k, listed.getD j false = true → needs ops j k = true → listed.getD k false = true

/-- Operation i, carried out in the frame of the text's order, whatever the values are of what it doesn't wait for. -/
def OpOkL (P : Program) (ops : Array Oper) (V : Nat → (Nat → Value) → World → Prop) (R : (Nat → Bool) → World → Prop) (St : Nat → World → World → Prop) (a0 : Act) (i : Nat) : Prop :=
  ∀ (S : Nat → Bool) (v : Nat → Value) (w : World), S i = false → (∀ j k, S j = true → needs ops j k = true → S k = true) → R S w → (∀ j, needs ops i j = true → V j v w) → ∀ o, ops[i]? = some o →
    o.wp P (putAll ops v (List.range i) a0) w (fun a' w' => ∃ u, a' = (putAll ops v (List.range i) a0).put o.dst u ∧ V i (setv v i (o.dst.elim undef fun _ => u)) w' ∧ St i w w' ∧ R (fun k => k == i || S k) w') (fun _ _ _ => False)

theorem wpAny_link {V : Nat → (Nat → Value) → World → Prop} {R : (Nat → Bool) → World → Prop} {St : Nat → World → World → Prop} {a0 : Act} (hdist : distinct ops = true) (hback : edgesBack ops = true) (htidy : tidy ops = true) (hslots : slotsIn ops a0.tmps.size = true)
    (hV : ∀ i k v w w', i ≠ k → needs ops i k = false → V i v w → St k w w' → V i v w') (hVc : ∀ i f g w, (∀ k, k = i ∨ needs ops i k = true → f k = g k) → V i f w → V i g w) (hok : ∀ i, i < ops.size → OpOkL P ops V R St a0 i)
    (hfin : ∀ v w, R (fun k => decide (k < ops.size)) w → (∀ i, i < ops.size → V i v w) → Q .normal (putAll ops v (List.range ops.size) a0) w) :
    ∀ (fuel : Nat) (listed : Array Bool) (a : Act) (w : World), ((List.range ops.size).filter fun i => !listed.getD i false).length ≤ fuel → MidL ops V R a0 listed a w → wpAny P .any ops Q fuel listed a w := by
  have full : ∀ (listed : Array Bool) (a : Act) (w : World), MidL ops V R a0 listed a w → Region.ready .any ops listed = [] → Q .normal a w := by
    intro listed a w m hnil
    have hall : ∀ i, i < ops.size → listed.getD i false = true := by
      intro i hi
      cases hl : listed.getD i false with
      | true => rfl
      | false =>
        obtain ⟨j, hj⟩ := unlisted_ready hback m.size (i + 1) i (by omega) hi hl
        rw [hnil] at hj; cases hj
    have hfull : (fun k => listed.getD k false) = fun k => decide (k < ops.size) := by
      funext k
      by_cases hk : k < ops.size
      · rw [hall k hk, decide_eq_true hk]
      · rw [decide_eq_false hk]
        simp [Array.getD, m.size, hk]
    have hq := hfin (valsOf ops a) w (hfull ▸ m.rel) (fun i hi => m.done i (hall i hi))
    have e : putAll ops (valsOf ops a) (List.range ops.size) a0 = a := by
      refine act_ext ?_ ?_ fun t => ?_
      · rw [(putAll_tmps _ _ _ _).1]; exact m.tmps.symm
      · rw [(putAll_tmps _ _ _ _).2]; exact m.defers.symm
      · by_cases hex : ∃ i, i < ops.size ∧ dstOf ops i = some t
        · obtain ⟨i, hi, hd⟩ := hex
          have hlt : t < a0.tmps.size := by
            have := List.all_eq_true.1 hslots i (List.mem_range.2 hi)
            rw [hd] at this
            simpa using this
          rw [putAll_get hdist _ hd _ _ (List.mem_range.2 hi) hlt]
          simp only [valsOf, hd]
        · have hno : ∀ i, dstOf ops i ≠ some t := by
            intro i hd
            refine hex ⟨i, ?_, hd⟩
            unfold dstOf at hd
            rcases Nat.lt_or_ge i ops.size with h | h
            · exact h
            · simp [Array.getElem?_eq_none h] at hd
          rw [putAll_other _ _ _ _ _ (fun i _ => hno i), m.other t (fun i _ => hno i)]
    rw [e] at hq
    exact hq
  intro fuel
  induction fuel with
  | zero =>
    intro listed a w hn m
    have hnil : Region.ready .any ops listed = [] := by
      cases hr : Region.ready .any ops listed with
      | nil => rfl
      | cons j js =>
        have hj : j ∈ Region.ready .any ops listed := by rw [hr]; simp
        obtain ⟨h1, o, ho, _⟩ := mem_ready.1 hj
        have hlt : j < ops.size := (Array.getElem?_eq_some_iff.1 ho).1
        have hl : listed.getD j false = false := by
          rw [Array.getD_eq_getD_getElem?, Array.getElem?_eq_getElem (by rw [m.size]; exact hlt)] at h1 ⊢
          exact h1
        have : j ∈ (List.range ops.size).filter fun i => !listed.getD i false := List.mem_filter.2 ⟨List.mem_range.2 hlt, by rw [hl]; rfl⟩
        have := List.length_pos_of_mem this
        omega
    exact ⟨hnil, full listed a w m hnil⟩
  | succ fuel ih =>
    intro listed a w hn m
    refine ⟨full listed a w m, fun i hi => ?_⟩
    obtain ⟨h1, o, ho, hedges⟩ := mem_ready.1 hi
    have hlt : i < ops.size := (Array.getElem?_eq_some_iff.1 ho).1
    have hl : listed.getD i false = false := by
      rw [Array.getD_eq_getD_getElem?, Array.getElem?_eq_getElem (by rw [m.size]; exact hlt)] at h1 ⊢
      exact h1
    have ht := List.all_eq_true.1 htidy i (List.mem_range.2 hlt)
    rw [ho] at ht
    simp only [Option.map_some, Option.getD_some, Bool.and_eq_true] at ht
    obtain ⟨⟨hg, hops⟩, hsel⟩ := ht
    have hg' : o.guard = none := by simpa using hg
    have hdst : dstOf ops i = o.dst := by unfold dstOf; rw [ho]; rfl
    have hneed : ∀ j, needs ops i j = true → listed.getD j false = true := by
      intro j hj
      unfold needs at hj
      rw [ho] at hj
      simp only [Option.map_some, Option.getD_some, Array.any_eq_true, Bool.and_eq_true, beq_iff_eq] at hj
      obtain ⟨k, hk, hb, he⟩ := hj
      rw [← he]
      exact hedges _ (Array.getElem_mem hk) hb
    unfold wpOp
    rw [ho]
    simp only [Region.wanted, hg', if_true]
    left
    have hvn : ∀ j, needs ops i j = true → V j (valsOf ops a) w := fun j hj => m.done j (hneed j hj)
    obtain ⟨v, hvdef⟩ : ∃ v, v = valsOf ops a := ⟨_, rfl⟩
    rw [← hvdef] at hvn
    have hstep := hok i hlt (fun k => listed.getD k false) v w hl (fun j k hj hjk => m.closed j k hj hjk) m.rel hvn o ho
    have hsel' : ∀ cs b, o.op ≠ .select cs b := by
      intro cs b e
      rw [e] at hsel
      cases hsel
    have hev : ∀ x ∈ o.op.operands, (putAll ops v (List.range i) a0).eval x = a.eval x := by
      intro x hx
      cases x with
      | tmp t =>
        show (putAll ops v (List.range i) a0).tmps.getD t undef = a.tmps.getD t undef
        have hx2 := List.all_eq_true.1 hops (.tmp t) (Array.mem_toList_iff.2 hx)
        by_cases hex : ∃ j, j < ops.size ∧ dstOf ops j = some t
        · obtain ⟨j, hj, hd⟩ := hex
          have hback1 : ∀ p q, needs ops p q = true → q < p := by
            intro p q hpq
            unfold needs at hpq
            cases hop : ops[p]? with
            | none => rw [hop] at hpq; cases hpq
            | some op =>
              rw [hop] at hpq
              have hp : p < ops.size := (Array.getElem?_eq_some_iff.1 hop).1
              simp only [Option.map_some, Option.getD_some, Array.any_eq_true, Bool.and_eq_true, beq_iff_eq] at hpq
              obtain ⟨k, hk, hb, he⟩ := hpq
              have h1 := List.all_eq_true.1 hback p (List.mem_range.2 hp)
              rw [hop] at h1
              simp only [Option.map_some, Option.getD_some, Array.all_eq_true_iff_forall_mem, Bool.or_eq_true, Bool.not_eq_true', decide_eq_true_eq] at h1
              rcases h1 _ (Array.getElem_mem hk) with h | h
              · rw [hb] at h; cases h
              · rw [← he]; exact h
          have h3 := List.all_eq_true.1 hx2 j (List.mem_range.2 hj)
          have hor : needs ops i j = true ∨ needs ops j i = true := by simpa [hd] using h3
          rcases hor with hnj | hnj
          · have hji : j < i := hback1 i j hnj
            have hlt2 : t < a0.tmps.size := by
              have := List.all_eq_true.1 hslots j (List.mem_range.2 hj)
              rw [hd] at this
              simpa using this
            rw [putAll_get hdist v hd _ _ (List.mem_range.2 hji) hlt2]
            rw [hvdef]
            simp only [valsOf, hd]
          · have hij : i < j := hback1 j i hnj
            have hnl : listed.getD j false = false := by
              cases hlj : listed.getD j false with
              | false => rfl
              | true =>
                have := m.closed j i hlj hnj
                rw [hl] at this
                cases this
            rw [putAll_other _ _ _ _ _ (fun k hk hkd => by
              have := distinct_spec hdist hkd hd
              subst this
              have := List.mem_range.1 hk
              omega), m.other t (fun k hk hkd => by
              have := distinct_spec hdist hkd hd
              subst this
              rw [hnl] at hk
              cases hk)]
        · have hno : ∀ j, dstOf ops j ≠ some t := by
            intro j hd
            refine hex ⟨j, ?_, hd⟩
            unfold dstOf at hd
            rcases Nat.lt_or_ge j ops.size with h | h
            · exact h
            · simp [Array.getElem?_eq_none h] at hd
          rw [putAll_other _ _ _ _ _ (fun j _ => hno j), m.other t (fun j _ => hno j)]
      | const c => rfl
      | global g => rfl
      | func f => rfl
    have hcong : execOp (putAll ops v (List.range i) a0).eval o = execOp a.eval o := execOp_congr o hsel' hev
    have hdef0 : (putAll ops v (List.range i) a0).defers = a.defers := by rw [(putAll_tmps _ _ _ _).2, m.defers]
    refine Oper.wp_congr (a := putAll ops v (List.range i) a0) hcong ?_ ?_ (fun _ _ _ h => h) hstep
    · rintro u w' ⟨u', he, hVu, hSt, hR⟩
      have hu : ∀ d, o.dst = some d → u' = u := by
        intro d hd
        have hd' : d < (putAll ops v (List.range i) a0).tmps.size := by
          rw [(putAll_tmps _ _ _ _).1]
          have := List.all_eq_true.1 hslots i (List.mem_range.2 hlt)
          rw [hdst, hd] at this
          simpa using this
        have h1 := congrArg (fun x : Act => x.tmps.getD d undef) he
        simp only [put_get, hd, hd', and_self, if_true] at h1
        exact h1.symm
      have hback0 : ∀ p q, needs ops p q = true → q < p := by
        intro p q hpq
        unfold needs at hpq
        cases hop : ops[p]? with
        | none => rw [hop] at hpq; cases hpq
        | some op =>
          rw [hop] at hpq
          have hp : p < ops.size := (Array.getElem?_eq_some_iff.1 hop).1
          simp only [Option.map_some, Option.getD_some, Array.any_eq_true, Bool.and_eq_true, beq_iff_eq] at hpq
          obtain ⟨k, hk, hb, he⟩ := hpq
          have h1 := List.all_eq_true.1 hback p (List.mem_range.2 hp)
          rw [hop] at h1
          simp only [Option.map_some, Option.getD_some, Array.all_eq_true_iff_forall_mem, Bool.or_eq_true, Bool.not_eq_true', decide_eq_true_eq] at h1
          rcases h1 _ (Array.getElem_mem hk) with h | h
          · rw [hb] at h; cases h
          · rw [← he]; exact h
      have hkeep : ∀ k, k ≠ i → valsOf ops (a.put o.dst u) k = valsOf ops a k := by
        intro k hki
        simp only [valsOf]
        cases hdk : dstOf ops k with
        | none => rfl
        | some d =>
          have hne : o.dst ≠ some d := fun h => hki (distinct_spec hdist hdk (hdst.trans h))
          simp only
          rw [put_get, if_neg (fun h => hne h.1)]
      have hself : valsOf ops (a.put o.dst u) i = o.dst.elim undef fun _ => u' := by
        simp only [valsOf, hdst]
        cases hd2 : o.dst with
        | none => rfl
        | some d =>
          have hlt3 : d < a.tmps.size := by
            rw [m.tmps]
            have := List.all_eq_true.1 hslots i (List.mem_range.2 hlt)
            rw [hdst, hd2] at this
            simpa using this
          simp only [Option.elim]
          rw [put_get, if_pos ⟨rfl, hlt3⟩, hu d hd2]
      have hset : (fun k => k == i || listed.getD k false) = fun k => (listed.setIfInBounds i true).getD k false := by
        funext k
        by_cases hki : k = i
        · subst hki
          rw [getD_set_self (by rw [m.size]; exact hlt)]; simp
        · rw [getD_set_ne false (fun h => hki h.symm)]
          have : (k == i) = false := by simpa using hki
          rw [this, Bool.false_or]
      refine ih _ _ _ ?_ ⟨by simpa using m.size, by rw [(put_tmps _ _ _).2]; exact m.defers, by rw [(put_tmps _ _ _).1]; exact m.tmps, ?_, ?_, hset ▸ hR, fun j k hj hjk => ?_⟩
      · have hsub : ((List.range ops.size).filter fun j => !(listed.setIfInBounds i true).getD j false).length < ((List.range ops.size).filter fun j => !listed.getD j false).length := by
          have e1 : ((List.range ops.size).filter fun j => !(listed.setIfInBounds i true).getD j false) = ((List.range ops.size).filter fun j => !listed.getD j false).filter fun j => j != i := by
            rw [List.filter_filter]
            refine List.filter_congr fun j hj => ?_
            by_cases hji : j = i
            · subst hji
              rw [getD_set_self (by rw [m.size]; exact hlt)]; simp
            · rw [getD_set_ne false (fun h => hji h.symm)]; simp [hji]
          rw [e1]
          have hmem : i ∈ (List.range ops.size).filter fun j => !listed.getD j false := List.mem_filter.2 ⟨List.mem_range.2 hlt, by rw [hl]; rfl⟩
          exact List.length_filter_lt_length_iff_exists.2 ⟨i, hmem, by simp⟩
        omega
      · intro j hj
        by_cases hji : j = i
        · subst hji
          refine hVc _ _ _ _ (fun k hk => ?_) hVu
          by_cases hkj : k = j
          · subst hkj; rw [setv_same, hself]
          · rw [setv_ne hkj, hkeep k hkj, hvdef]
        · rw [getD_set_ne false (fun h => hji h.symm)] at hj
          have hnj : needs ops j i = false := by
            cases hq : needs ops j i with
            | false => rfl
            | true =>
              have := m.closed j i hj hq
              rw [hl] at this
              cases this
          refine hVc _ _ _ _ (fun k hk => ?_) (hV _ _ _ _ _ hji hnj (m.done j hj) hSt)
          have hki : k ≠ i := by
            rcases hk with rfl | hk
            · exact hji
            · rintro rfl
              have := m.closed j k hj hk
              rw [hl] at this
              cases this
          rw [hkeep k hki]
      · intro t ht
        have hne : o.dst ≠ some t := by
          rw [← hdst]
          exact ht i (getD_set_self (by rw [m.size]; exact hlt))
        rw [put_get, if_neg (fun h => hne h.1)]
        refine m.other t fun j hj => ht j ?_
        exact getD_set_true hj
      · by_cases hji : j = i
        · subst hji
          exact getD_set_true (hneed k hjk)
        · rw [getD_set_ne false (fun h => hji h.symm)] at hj
          exact getD_set_true (m.closed j k hj hjk)
    · rintro d w' ⟨u', he, _⟩
      have h1 := congrArg Act.defers he
      rw [(put_tmps _ _ _).2, (put_tmps _ _ _).2] at h1
      have h2 := congrArg List.length h1
      simp at h2
end

theorem wp_region_link {P : Program} {id : Nat} {ops : Array Oper} {Q : Exit → Act → World → Prop} {a0 : Act} {w : World} (V : Nat → (Nat → Value) → World → Prop) (R : (Nat → Bool) → World → Prop) (St : Nat → World → World → Prop) (hm : P.follows .mixedOrders = true)
    (hdist : distinct ops = true) (hback : edgesBack ops = true) (htidy : tidy ops = true) (hslots : slotsIn ops a0.tmps.size = true)
    (hV : ∀ i k v w w', i ≠ k → needs ops i k = false → V i v w → St k w w' → V i v w') (hVc : ∀ i f g w, (∀ k, k = i ∨ needs ops i k = true → f k = g k) → V i f w → V i g w) (hR : R (fun _ => false) w.drew) (hok : ∀ i, i < ops.size → OpOkL P ops V R St a0 i)
    (hfin : ∀ v w, R (fun k => decide (k < ops.size)) w → (∀ i, i < ops.size → V i v w) → Q .normal (putAll ops v (List.range ops.size) a0) w) : (Code.region id ops true).wp P Q a0 w := by
  have hR0 : (fun _ : Nat => false) = fun k => (Array.replicate ops.size false).getD k false := by funext k; rw [rep_false]
  refine wp_region_any hm ?_
  refine wpAny_link hdist hback htidy hslots hV hVc hok hfin ops.size _ a0 _ ?_ ⟨by simp, rfl, rfl, ?_, fun _ _ => rfl, hR0 ▸ hR, fun j k hj => by rw [rep_false] at hj; cases hj⟩
  · exact Nat.le_trans (List.length_filter_le _ _) (by simp)
  · intro i hl
    rw [rep_false] at hl
    cases hl


theorem opl_val {P : Program} {ops : Array Oper} {V : Nat → (Nat → Value) → World → Prop} {R : (Nat → Bool) → World → Prop} {St : Nat → World → World → Prop} {a0 : Act} {i : Nat} {o : Oper} (hd : distinct ops = true) (hs : slotsIn ops a0.tmps.size = true) (ho : ops[i]? = some o)
    (h : ∀ (S : Nat → Bool) (ρ : Operand → Value) (v : Nat → Value) (w : World), S i = false → (∀ j k, S j = true → needs ops j k = true → S k = true) → (∀ j, needs ops i j = true → V j v w) → (∀ j t, dstOf ops j = some t → decide (j < i) = true → ρ (.tmp t) = v j) → (∀ t, ((List.range i).all fun j => dstOf ops j != some t) = true → ρ (.tmp t) = a0.eval (.tmp t)) → (∀ c, ρ (.const c) = c) → R S w →
      ∃ u w', (execOp ρ o).run P w = .ok (.value u) w' ∧ V i (setv v i (o.dst.elim undef fun _ => u)) w' ∧ St i w w' ∧ R (fun k => k == i || S k) w') : OpOkL P ops V R St a0 i := by
  intro S v w hSi hSc hR hn o' ho'
  obtain rfl := Option.some.inj (ho.symm.trans ho')
  obtain ⟨u, w', h1, h2, h3, h4⟩ := h S (putAll ops v (List.range i) a0).eval v w hSi hSc hn (fun j t hj hji => by
    have hlt : t < a0.tmps.size := by
      have hjl : j < ops.size := by
        unfold dstOf at hj
        rcases Nat.lt_or_ge j ops.size with h | h
        · exact h
        · simp [Array.getElem?_eq_none h] at hj
      have := List.all_eq_true.1 hs j (List.mem_range.2 hjl)
      rw [hj] at this
      simpa using this
    exact eval_put hd hj (of_decide_eq_true hji) hlt) (fun t ht => eval_old ht) (fun c => rfl) hR
  unfold Oper.wp
  rw [h1]
  exact ⟨u, rfl, h2, h3, h4⟩

theorem opl_call {P : Program} {ops : Array Oper} {V : Nat → (Nat → Value) → World → Prop} {R : (Nat → Bool) → World → Prop} {St : Nat → World → World → Prop} {a0 : Act} {i : Nat} {o : Oper} (hd : distinct ops = true) (hs : slotsIn ops a0.tmps.size = true) (ho : ops[i]? = some o)
    (h : ∀ (S : Nat → Bool) (ρ : Operand → Value) (v : Nat → Value) (w : World), S i = false → (∀ j k, S j = true → needs ops j k = true → S k = true) → (∀ j, needs ops i j = true → V j v w) → (∀ j t, dstOf ops j = some t → decide (j < i) = true → ρ (.tmp t) = v j) → (∀ t, ((List.range i).all fun j => dstOf ops j != some t) = true → ρ (.tmp t) = a0.eval (.tmp t)) → (∀ f, ρ (.func f) = a0.eval (.func f)) → R S w →
      ∃ f args, (execOp ρ o).run P w = .ok (.enter f args) w ∧ Calls P f args w fun e w' => ∃ u, e = .returned u ∧ V i (setv v i (o.dst.elim undef fun _ => u)) w' ∧ St i w w' ∧ R (fun k => k == i || S k) w') : OpOkL P ops V R St a0 i := by
  intro S v w hSi hSc hR hn o' ho'
  obtain rfl := Option.some.inj (ho.symm.trans ho')
  obtain ⟨f, args, h1, h2⟩ := h S (putAll ops v (List.range i) a0).eval v w hSi hSc hn (fun j t hj hji => by
    have hlt : t < a0.tmps.size := by
      have hjl : j < ops.size := by
        unfold dstOf at hj
        rcases Nat.lt_or_ge j ops.size with h | h
        · exact h
        · simp [Array.getElem?_eq_none h] at hj
      have := List.all_eq_true.1 hs j (List.mem_range.2 hjl)
      rw [hj] at this
      simpa using this
    exact eval_put hd hj (of_decide_eq_true hji) hlt) (fun t ht => eval_old ht) (fun c => rfl) hR
  unfold Oper.wp
  rw [h1]
  refine Calls.mono h2 ?_
  rintro e w' ⟨u, rfl, h3, h4, h5⟩
  exact ⟨u, rfl, h3, h4, h5⟩

/-- A store, or another operation that yields nothing. -/
theorem opl_skip {P : Program} {ops : Array Oper} {V : Nat → (Nat → Value) → World → Prop} {R : (Nat → Bool) → World → Prop} {St : Nat → World → World → Prop} {a0 : Act} {i : Nat} {o : Oper} (hd : distinct ops = true) (hs : slotsIn ops a0.tmps.size = true) (ho : ops[i]? = some o) (hdst : o.dst = none)
    (h : ∀ (S : Nat → Bool) (ρ : Operand → Value) (v : Nat → Value) (w : World), S i = false → (∀ j k, S j = true → needs ops j k = true → S k = true) → (∀ j, needs ops i j = true → V j v w) → (∀ j t, dstOf ops j = some t → decide (j < i) = true → ρ (.tmp t) = v j) → (∀ t, ((List.range i).all fun j => dstOf ops j != some t) = true → ρ (.tmp t) = a0.eval (.tmp t)) → (∀ c, ρ (.const c) = c) → R S w →
      ∃ w', (execOp ρ o).run P w = .ok .skip w' ∧ V i (setv v i undef) w' ∧ St i w w' ∧ R (fun k => k == i || S k) w') : OpOkL P ops V R St a0 i := by
  intro S v w hSi hSc hR hn o' ho'
  obtain rfl := Option.some.inj (ho.symm.trans ho')
  obtain ⟨w', h1, h2, h3, h4⟩ := h S (putAll ops v (List.range i) a0).eval v w hSi hSc hn (fun j t hj hji => by
    have hlt : t < a0.tmps.size := by
      have hjl : j < ops.size := by
        unfold dstOf at hj
        rcases Nat.lt_or_ge j ops.size with h | h
        · exact h
        · simp [Array.getElem?_eq_none h] at hj
      have := List.all_eq_true.1 hs j (List.mem_range.2 hjl)
      rw [hj] at this
      simpa using this
    exact eval_put hd hj (of_decide_eq_true hji) hlt) (fun t ht => eval_old ht) (fun c => rfl) hR
  unfold Oper.wp
  rw [h1]
  exact ⟨undef, rfl, by rw [hdst]; exact h2, h3, h4⟩
end Go.Proofs.YtinjbonodlkafaaDoor

/- A region that draws its order, by the relations of XConf: the wrapper, and how a slot reads. No program text. -/
import Derived.Test.YtinjbonodlkafaaDoorConf
set_option linter.unusedVariables false
set_option linter.unusedSimpArgs false
namespace Go.Proofs.YtinjbonodlkafaaDoor
open Go Go.RowKit

theorem rep_false (m j : Nat) : (Array.replicate m false).getD j false = false := by
  rcases Nat.lt_or_ge j m with h | h
  · simp [h]
  · simp [h]
theorem wp_region_conf {P : Program} {id : Nat} {ops : Array Oper} {Q : Exit → Act → World → Prop} {a0 : Act} {w : World} (V : Nat → Value → World → Prop) (R : World → Prop) (St : World → World → Prop) (hm : P.follows .mixedOrders = true)
    (hdist : distinct ops = true) (hback : edgesBack ops = true) (htidy : tidy ops = true) (hslots : slotsIn ops a0.tmps.size = true)
    (hV : ∀ i v w w', V i v w → St w w' → V i v w') (hR : R w.drew) (hok : ∀ i, i < ops.size → OpOk P ops Q V R St a0 i)
    (hfin : ∀ v w, R w → (∀ i, i < ops.size → V i (v i) w) → Q .normal (putAll ops v (List.range ops.size) a0) w) : (Code.region id ops true).wp P Q a0 w := by
  refine wp_region_any hm ?_
  refine wpAny_conf hdist hback htidy hslots hV hok hfin ops.size _ a0 _ ?_ ⟨by simp, rfl, rfl, ?_, ?_, fun _ _ => rfl, hR, fun j k hj => by rw [rep_false] at hj; cases hj⟩
  · exact Nat.le_trans (List.length_filter_le _ _) (by simp)
  · intro i d hl
    rw [rep_false] at hl
    cases hl
  · intro i hl
    rw [rep_false] at hl
    cases hl

theorem eval_put {ops : Array Oper} {v : Nat → Value} {i j : Nat} {t : Tmp} {a0 : Act} (hd : distinct ops = true) (hj : dstOf ops j = some t) (hji : j < i) (ht : t < a0.tmps.size) : (putAll ops v (List.range i) a0).eval (.tmp t) = v j :=
  putAll_get hd v hj (List.range i) a0 (List.mem_range.2 hji) ht
theorem eval_old {ops : Array Oper} {v : Nat → Value} {i : Nat} {t : Tmp} {a0 : Act} (h : ((List.range i).all fun j => dstOf ops j != some t) = true) : (putAll ops v (List.range i) a0).eval (.tmp t) = a0.eval (.tmp t) :=
  putAll_other ops v t (List.range i) a0 (fun j hj => by simpa using List.all_eq_true.1 h j hj)
theorem opok_val {P : Program} {ops : Array Oper} {Q : Exit → Act → World → Prop} {V : Nat → Value → World → Prop} {R : World → Prop} {St : World → World → Prop} {a0 : Act} {i : Nat} {o : Oper} (hd : distinct ops = true) (hs : slotsIn ops a0.tmps.size = true) (ho : ops[i]? = some o)
    (h : ∀ (ρ : Operand → Value) (w : World), (∀ j t, dstOf ops j = some t → decide (j < i) = true → needs ops i j = true → V j (ρ (.tmp t)) w) → (∀ t, ((List.range i).all fun j => dstOf ops j != some t) = true → ρ (.tmp t) = a0.eval (.tmp t)) → (∀ c, ρ (.const c) = c) → R w →
      ∃ u w', (execOp ρ o).run P w = .ok (.value u) w' ∧ V i (o.dst.elim undef fun _ => u) w' ∧ St w w' ∧ R w') : OpOk P ops Q V R St a0 i := by
  intro v w hR hn o' ho'
  obtain rfl := Option.some.inj (ho.symm.trans ho')
  obtain ⟨u, w', h1, h2, h3, h4⟩ := h (putAll ops v (List.range i) a0).eval w (fun j t hj hji hnd => by
    have hlt : t < a0.tmps.size := by
      have hjl : j < ops.size := by
        unfold dstOf at hj
        rcases Nat.lt_or_ge j ops.size with h | h
        · exact h
        · simp [Array.getElem?_eq_none h] at hj
      have := List.all_eq_true.1 hs j (List.mem_range.2 hjl)
      rw [hj] at this
      simpa using this
    rw [eval_put hd hj (of_decide_eq_true hji) hlt]
    exact hn j hnd) (fun t ht => eval_old ht) (fun c => rfl) hR
  unfold Oper.wp
  rw [h1]
  exact ⟨u, rfl, h2, h3, h4⟩

theorem opok_call {P : Program} {ops : Array Oper} {Q : Exit → Act → World → Prop} {V : Nat → Value → World → Prop} {R : World → Prop} {St : World → World → Prop} {a0 : Act} {i : Nat} {o : Oper} (hd : distinct ops = true) (hs : slotsIn ops a0.tmps.size = true) (ho : ops[i]? = some o)
    (h : ∀ (ρ : Operand → Value) (w : World), (∀ j t, dstOf ops j = some t → decide (j < i) = true → needs ops i j = true → V j (ρ (.tmp t)) w) → (∀ t, ((List.range i).all fun j => dstOf ops j != some t) = true → ρ (.tmp t) = a0.eval (.tmp t)) → (∀ f, ρ (.func f) = a0.eval (.func f)) → R w →
      ∃ f args, (execOp ρ o).run P w = .ok (.enter f args) w ∧ Calls P f args w fun e w' => ∃ u, e = .returned u ∧ V i (o.dst.elim undef fun _ => u) w' ∧ St w w' ∧ R w') : OpOk P ops Q V R St a0 i := by
  intro v w hR hn o' ho'
  obtain rfl := Option.some.inj (ho.symm.trans ho')
  obtain ⟨f, args, h1, h2⟩ := h (putAll ops v (List.range i) a0).eval w (fun j t hj hji hnd => by
    have hlt : t < a0.tmps.size := by
      have hjl : j < ops.size := by
        unfold dstOf at hj
        rcases Nat.lt_or_ge j ops.size with h | h
        · exact h
        · simp [Array.getElem?_eq_none h] at hj
      have := List.all_eq_true.1 hs j (List.mem_range.2 hjl)
      rw [hj] at this
      simpa using this
    rw [eval_put hd hj (of_decide_eq_true hji) hlt]
    exact hn j hnd) (fun t ht => eval_old ht) (fun c => rfl) hR
  unfold Oper.wp
  rw [h1]
  refine Calls.mono h2 ?_
  rintro e w' ⟨u, rfl, h3, h4, h5⟩
  exact ⟨u, rfl, h3, h4, h5⟩
theorem exec_convert {P : Program} {ρ : Operand → Value} {o : Oper} {src dst : TypeId} {x : Operand} {u : Value} {w w' : World} (ho : o.op = .convert src dst x) (h : (convert src dst (ρ x)).run P w = .ok u w') : (execOp ρ o).run P w = .ok (.value u) w' := by
  unfold execOp
  rw [ho]
  show ((convert src dst (ρ x)) >>= fun y => (pure (.value y) : Sem Next)).run P w = _
  rw [Sem.run_bind, h]
  rfl
theorem hfin_of {ops : Array Oper} {Q : Exit → Act → World → Prop} {a0 : Act} {v : Nat → Value} {w : World} (hd : distinct ops = true) (hs : slotsIn ops a0.tmps.size = true) (n : Nat) (hn : a0.tmps.size = n) (hdf : a0.defers = [])
    (h : ∀ f : Tmp → Value, (∀ j t, dstOf ops j = some t → f t = v j) → (∀ t, ((List.range ops.size).all fun j => dstOf ops j != some t) = true → f t = a0.eval (.tmp t)) → Q .normal { tmps := ((List.range n).map f).toArray, defers := [] } w) :
    Q .normal (putAll ops v (List.range ops.size) a0) w := by
  have h2 := h (fun t => (putAll ops v (List.range ops.size) a0).eval (.tmp t)) (fun j t hj => by
    have hjl : j < ops.size := by
      unfold dstOf at hj
      rcases Nat.lt_or_ge j ops.size with h | h
      · exact h
      · simp [Array.getElem?_eq_none h] at hj
    have hlt : t < a0.tmps.size := by
      have := List.all_eq_true.1 hs j (List.mem_range.2 hjl)
      rw [hj] at this
      simpa using this
    exact eval_put hd hj hjl hlt) (fun t ht => eval_old ht)
  have e : putAll ops v (List.range ops.size) a0 = { tmps := ((List.range n).map fun t => (putAll ops v (List.range ops.size) a0).eval (.tmp t)).toArray, defers := [] } := by
    refine act_ext ?_ ?_ fun t => ?_
    · rw [(putAll_tmps _ _ _ _).1]; simp [hn]
    · rw [(putAll_tmps _ _ _ _).2, hdf]
    · rcases Nat.lt_or_ge t n with ht | ht
      · simp [ht]
        show _ = (putAll ops v (List.range ops.size) a0).tmps.getD t undef
        rw [Array.getD_eq_getD_getElem?]
      · have : (putAll ops v (List.range ops.size) a0).tmps.size ≤ t := by rw [(putAll_tmps _ _ _ _).1, hn]; exact ht
        simp [Array.getD, Nat.not_lt.2 this, Nat.not_lt.2 ht]
  rw [e]
  exact h2
end Go.Proofs.YtinjbonodlkafaaDoor

/- A region that draws its order: each operation's result is told by a relation that later operations keep; then whatever the order, the region ends in the frame that its text tells. No program text. -/
import Derived.Test.YtinjbonodlkafaaDoorKit
import Derived.Orders
set_option linter.unusedVariables false
set_option linter.unusedSimpArgs false
namespace Go.Proofs.YtinjbonodlkafaaDoor
open Go Go.RowKit

def dstOf (ops : Array Oper) (i : Nat) : Option Tmp := (ops[i]?).bind (·.dst)
/-- The frame behind operations is, in the text's order. -/
def putAll (ops : Array Oper) (v : Nat → Value) : List Nat → Act → Act
  | [], a => a
  | i :: is, a => putAll ops v is (a.put (dstOf ops i) (v i))

theorem put_tmps (a : Act) (d : Option Tmp) (v : Value) : (a.put d v).tmps.size = a.tmps.size ∧ (a.put d v).defers = a.defers := by
  cases d <;> simp [Act.put]
theorem put_get (a : Act) (d : Option Tmp) (v : Value) (t : Tmp) : (a.put d v).tmps.getD t undef = if d = some t ∧ t < a.tmps.size then v else a.tmps.getD t undef := by
  cases d with
  | none => simp [Act.put]
  | some d =>
    simp only [Act.put, Option.some.injEq]
    by_cases h : d = t
    · subst h
      by_cases h2 : d < a.tmps.size
      · simp [h2]
      · simp [h2]
    · simp [h]
theorem putAll_tmps (ops : Array Oper) (v : Nat → Value) : ∀ (is : List Nat) (a : Act), (putAll ops v is a).tmps.size = a.tmps.size ∧ (putAll ops v is a).defers = a.defers
  | [], a => ⟨rfl, rfl⟩
  | i :: is, a => by
    have h := putAll_tmps ops v is (a.put (dstOf ops i) (v i))
    have h2 := put_tmps a (dstOf ops i) (v i)
    exact ⟨h.1.trans h2.1, h.2.trans h2.2⟩

/-- No two operations write one slot. -/
def distinct (ops : Array Oper) : Bool := (List.range ops.size).all fun i => (List.range ops.size).all fun j => i == j || dstOf ops i == none || dstOf ops i != dstOf ops j
theorem distinct_spec {ops : Array Oper} (h : distinct ops = true) {i j : Nat} {d : Tmp} (hi : dstOf ops i = some d) (hj : dstOf ops j = some d) : i = j := by
  have hlt : ∀ k d, dstOf ops k = some d → k < ops.size := by
    intro k d hk
    unfold dstOf at hk
    rcases Nat.lt_or_ge k ops.size with h | h
    · exact h
    · simp [Array.getElem?_eq_none h] at hk
  have := List.all_eq_true.1 (List.all_eq_true.1 h i (List.mem_range.2 (hlt _ _ hi))) j (List.mem_range.2 (hlt _ _ hj))
  simp [hi, hj] at this
  exact this

theorem putAll_other (ops : Array Oper) (v : Nat → Value) (t : Tmp) : ∀ (is : List Nat) (a : Act), (∀ i ∈ is, dstOf ops i ≠ some t) → (putAll ops v is a).tmps.getD t undef = a.tmps.getD t undef
  | [], a, _ => rfl
  | i :: is, a, h => by
    show (putAll ops v is (a.put (dstOf ops i) (v i))).tmps.getD t undef = _
    rw [putAll_other ops v t is _ (fun j hj => h j (by simp [hj])), put_get, if_neg]
    intro hh
    exact h i (by simp) hh.1
theorem putAll_get {ops : Array Oper} (hd : distinct ops = true) (v : Nat → Value) {t : Tmp} {i : Nat} (hi : dstOf ops i = some t) : ∀ (is : List Nat) (a : Act), i ∈ is → t < a.tmps.size → (putAll ops v is a).tmps.getD t undef = v i
  | j :: is, a, hm, ht => by
    show (putAll ops v is (a.put (dstOf ops j) (v j))).tmps.getD t undef = _
    have hsz : t < (a.put (dstOf ops j) (v j)).tmps.size := by rw [(put_tmps _ _ _).1]; exact ht
    by_cases hin : i ∈ is
    · exact putAll_get hd v hi is _ hin hsz
    · have hij : i = j := by rcases List.mem_cons.1 hm with h | h; · exact h
                             · exact absurd h hin
      subst hij
      rw [putAll_other ops v t is _ (fun k hk hkk => hin (distinct_spec hd hi hkk ▸ hk)), put_get, if_pos ⟨hi, ht⟩]

/-- What an operation waits for. -/
def needs (ops : Array Oper) (i j : Nat) : Bool := ((ops[i]?).map fun o => o.after.any fun e => Region.binds .any e && e.on == j).getD false
/-- Edges lead back. -/
def edgesBack (ops : Array Oper) : Bool := (List.range ops.size).all fun i => ((ops[i]?).map fun o => o.after.all fun e => !Region.binds .any e || decide (e.on < i)).getD true
/-- What an operation looks at is its own, or comes from what it waits for; no operation is guarded; none is a select. -/
def tidy (ops : Array Oper) : Bool := (List.range ops.size).all fun i => ((ops[i]?).map fun o =>
  o.guard == none && (o.op.operands.toList.all fun | .tmp t => (List.range ops.size).all fun j => dstOf ops j != some t || needs ops i j || needs ops j i | _ => true) && (match o.op with | .select .. => false | _ => true)).getD true
/-- All slots are there. -/
def slotsIn (ops : Array Oper) (n : Nat) : Bool := (List.range ops.size).all fun i => match dstOf ops i with | some d => decide (d < n) | none => true

section
variable {P : Program} {ops : Array Oper} {Q : Exit → Act → World → Prop}

/-- The state behind the operations that are listed. -/
structure Mid (ops : Array Oper) (V : Nat → Value → World → Prop) (R : World → Prop) (a0 : Act) (listed : Array Bool) (a : Act) (w : World) : Prop where
  size : listed.size = ops.size
  defers : a.defers = a0.defers
  tmps : a.tmps.size = a0.tmps.size
  done : ∀ i d, listed.getD i false = true → dstOf ops i = some d → V i (a.tmps.getD d undef) w
  nodst : ∀ i, listed.getD i false = true → dstOf ops i = none → V i undef w
  other : ∀ t, (∀ i, listed.getD i false = true → dstOf ops i ≠ some t) → a.tmps.getD t undef = a0.tmps.getD t undef
  rel : R w
  closed : ∀ j k, listed.getD j false = true → needs ops j k = true → listed.getD k false = true

theorem act_ext {a b : Act} (h1 : a.tmps.size = b.tmps.size) (h2 : a.defers = b.defers) (h : ∀ t, a.tmps.getD t undef = b.tmps.getD t undef) : a = b := by
  cases a; cases b
  simp only at h1 h2
  subst h2
  congr 1
  refine Array.ext h1 fun i hi hj => ?_
  have := h i
  simp only [Array.getD] at this
  rw [dif_pos hi, dif_pos hj] at this
  exact this

theorem unlisted_ready {listed : Array Bool} (he : edgesBack ops = true) (hs : listed.size = ops.size) : ∀ n i, i < n → i < ops.size → listed.getD i false = false → ∃ j, j ∈ Region.ready .any ops listed := by
  intro n
  induction n with
  | zero => intro i h; omega
  | succ n ih =>
    intro i hin hi hl
    obtain ⟨o, ho⟩ : ∃ o, ops[i]? = some o := ⟨ops[i], by simp [hi]⟩
    by_cases hall : ∀ e ∈ o.after, Region.binds .any e = true → listed.getD e.on false = true
    · refine ⟨i, mem_ready.2 ⟨?_, o, ho, hall⟩⟩
      rw [Array.getD_eq_getD_getElem?] at hl ⊢
      rw [Array.getElem?_eq_getElem (by omega)] at hl ⊢
      exact hl
    · simp only [Classical.not_forall] at hall
      obtain ⟨e, hm, hb, hne⟩ := hall
      have h1 := List.all_eq_true.1 he i (List.mem_range.2 hi)
      rw [ho] at h1
      simp only [Option.map_some, Option.getD_some, Array.all_eq_true_iff_forall_mem, Bool.or_eq_true, Bool.not_eq_true', decide_eq_true_eq] at h1
      have h2 : e.on < i := by rcases h1 e hm with h | h; · rw [hb] at h; cases h
                               · exact h
      exact ih e.on (by omega) (by omega) (by simpa using hne)

/-- Operation i, carried out in the frame of the text's order, whatever the values are of what it doesn't wait for. -/
def OpOk (P : Program) (ops : Array Oper) (Q : Exit → Act → World → Prop) (V : Nat → Value → World → Prop) (R : World → Prop) (St : World → World → Prop) (a0 : Act) (i : Nat) : Prop :=
  ∀ (v : Nat → Value) (w : World), R w → (∀ j, needs ops i j = true → V j (v j) w) → ∀ o, ops[i]? = some o →
    o.wp P (putAll ops v (List.range i) a0) w (fun a' w' => ∃ u, a' = (putAll ops v (List.range i) a0).put o.dst u ∧ V i (o.dst.elim undef fun _ => u) w' ∧ St w w' ∧ R w') (fun _ _ _ => False)

theorem Oper.wp_congr {o : Oper} {a a' : Act} {w : World} {K K' : Act → World → Prop} {Q Q' : Exit → Act → World → Prop} (he : execOp a.eval o = execOp a'.eval o)
    (hK : ∀ u w', K (a.put o.dst u) w' → K' (a'.put o.dst u) w') (hD : ∀ d w', K ({ a with defers := d :: a.defers }.put o.dst undef) w' → False) (hQ : ∀ e b w', Q e b w' → False)
    (h : o.wp P a w K Q) : o.wp P a' w K' Q' := by
  unfold Oper.wp at *
  rw [← he]
  generalize (execOp a.eval o).run P w = r at *
  cases r with
  | ok n w' =>
    cases n with
    | value v => exact hK _ _ h
    | skip => exact hK _ _ h
    | defer d => exact (hD _ _ h).elim
    | enter f args =>
      exact Calls.mono h (fun e w'' he => by
        cases e with
        | returned v => exact hK _ _ he
        | panicked c => exact (hQ _ _ _ he).elim
        | outgrown => obtain ⟨x, y, hxy⟩ := he; exact (hQ _ _ _ hxy).elim)
    | row r args => exact Rows.mono h (fun _ _ he => hK _ _ he)
    | _ => exact (h : False).elim
  | halt x w' =>
    cases x <;> simp only [Oper.upon] at h ⊢ <;> exact (hQ _ _ _ h).elim

theorem getD_set_self {listed : Array Bool} {i : Nat} (h : i < listed.size) : (listed.setIfInBounds i true).getD i false = true := by
  simp [h]

theorem wpAny_conf {V : Nat → Value → World → Prop} {R : World → Prop} {St : World → World → Prop} {a0 : Act} (hdist : distinct ops = true) (hback : edgesBack ops = true) (htidy : tidy ops = true) (hslots : slotsIn ops a0.tmps.size = true)
    (hV : ∀ i v w w', V i v w → St w w' → V i v w') (hok : ∀ i, i < ops.size → OpOk P ops Q V R St a0 i)
    (hfin : ∀ v w, R w → (∀ i, i < ops.size → V i (v i) w) → Q .normal (putAll ops v (List.range ops.size) a0) w) :
    ∀ (fuel : Nat) (listed : Array Bool) (a : Act) (w : World), ((List.range ops.size).filter fun i => !listed.getD i false).length ≤ fuel → Mid ops V R a0 listed a w → wpAny P .any ops Q fuel listed a w := by
  have full : ∀ (listed : Array Bool) (a : Act) (w : World), Mid ops V R a0 listed a w → Region.ready .any ops listed = [] → Q .normal a w := by
    intro listed a w m hnil
    have hall : ∀ i, i < ops.size → listed.getD i false = true := by
      intro i hi
      cases hl : listed.getD i false with
      | true => rfl
      | false =>
        obtain ⟨j, hj⟩ := unlisted_ready hback m.size (i + 1) i (by omega) hi hl
        rw [hnil] at hj; cases hj
    have hv : ∀ i, i < ops.size → V i (match dstOf ops i with | some d => a.tmps.getD d undef | none => undef) w := by
      intro i hi
      cases hd : dstOf ops i with
      | some d => exact m.done i d (hall i hi) hd
      | none => exact m.nodst i (hall i hi) hd
    have hq := hfin (fun i => match dstOf ops i with | some d => a.tmps.getD d undef | none => undef) w m.rel hv
    have e : putAll ops (fun i => match dstOf ops i with | some d => a.tmps.getD d undef | none => undef) (List.range ops.size) a0 = a := by
      refine act_ext ?_ ?_ fun t => ?_
      · rw [(putAll_tmps _ _ _ _).1]; exact m.tmps.symm
      · rw [(putAll_tmps _ _ _ _).2]; exact m.defers.symm
      · by_cases hex : ∃ i, i < ops.size ∧ dstOf ops i = some t
        · obtain ⟨i, hi, hd⟩ := hex
          have hlt : t < a0.tmps.size := by
            have := List.all_eq_true.1 hslots i (List.mem_range.2 hi)
            rw [hd] at this
            simpa using this
          rw [putAll_get hdist _ hd _ _ (List.mem_range.2 hi) hlt]
          simp only [hd]
        · have hno : ∀ i, dstOf ops i ≠ some t := by
            intro i hd
            refine hex ⟨i, ?_, hd⟩
            unfold dstOf at hd
            rcases Nat.lt_or_ge i ops.size with h | h
            · exact h
            · simp [Array.getElem?_eq_none h] at hd
          rw [putAll_other _ _ _ _ _ (fun i _ => hno i), m.other t (fun i _ => hno i)]
    rw [e] at hq
    exact hq
  intro fuel
  induction fuel with
  | zero =>
    intro listed a w hn m
    have hnil : Region.ready .any ops listed = [] := by
      cases hr : Region.ready .any ops listed with
      | nil => rfl
      | cons j js =>
        have hj : j ∈ Region.ready .any ops listed := by rw [hr]; simp
        obtain ⟨h1, o, ho, _⟩ := mem_ready.1 hj
        have hlt : j < ops.size := (Array.getElem?_eq_some_iff.1 ho).1
        have hl : listed.getD j false = false := by
          rw [Array.getD_eq_getD_getElem?, Array.getElem?_eq_getElem (by rw [m.size]; exact hlt)] at h1 ⊢
          exact h1
        have : j ∈ (List.range ops.size).filter fun i => !listed.getD i false := List.mem_filter.2 ⟨List.mem_range.2 hlt, by rw [hl]; rfl⟩
        have := List.length_pos_of_mem this
        omega
    exact ⟨hnil, full listed a w m hnil⟩
  | succ fuel ih =>
    intro listed a w hn m
    refine ⟨full listed a w m, fun i hi => ?_⟩
    obtain ⟨h1, o, ho, hedges⟩ := mem_ready.1 hi
    have hlt : i < ops.size := (Array.getElem?_eq_some_iff.1 ho).1
    have hl : listed.getD i false = false := by
      rw [Array.getD_eq_getD_getElem?, Array.getElem?_eq_getElem (by rw [m.size]; exact hlt)] at h1 ⊢
      exact h1
    have ht := List.all_eq_true.1 htidy i (List.mem_range.2 hlt)
    rw [ho] at ht
    simp only [Option.map_some, Option.getD_some, Bool.and_eq_true] at ht
    obtain ⟨⟨hg, hops⟩, hsel⟩ := ht
    have hg' : o.guard = none := by simpa using hg
    have hdst : dstOf ops i = o.dst := by unfold dstOf; rw [ho]; rfl
    have hneed : ∀ j, needs ops i j = true → listed.getD j false = true := by
      intro j hj
      unfold needs at hj
      rw [ho] at hj
      simp only [Option.map_some, Option.getD_some, Array.any_eq_true, Bool.and_eq_true, beq_iff_eq] at hj
      obtain ⟨k, hk, hb, he⟩ := hj
      rw [← he]
      exact hedges _ (Array.getElem_mem hk) hb
    unfold wpOp
    rw [ho]
    simp only [Region.wanted, hg', if_true]
    left
    let v : Nat → Value := fun j => match dstOf ops j with | some d => a.tmps.getD d undef | none => undef
    have hvn : ∀ j, needs ops i j = true → V j (v j) w := by
      intro j hj
      have hlj := hneed j hj
      show V j (match dstOf ops j with | some d => a.tmps.getD d undef | none => undef) w
      cases hd : dstOf ops j with
      | some d => exact m.done j d hlj hd
      | none => exact m.nodst j hlj hd
    have hstep := hok i hlt v w m.rel hvn o ho
    have hsel' : ∀ cs b, o.op ≠ .select cs b := by
      intro cs b e
      rw [e] at hsel
      cases hsel
    have hev : ∀ x ∈ o.op.operands, (putAll ops v (List.range i) a0).eval x = a.eval x := by
      intro x hx
      cases x with
      | tmp t =>
        show (putAll ops v (List.range i) a0).tmps.getD t undef = a.tmps.getD t undef
        have hx2 := List.all_eq_true.1 hops (.tmp t) (Array.mem_toList_iff.2 hx)
        by_cases hex : ∃ j, j < ops.size ∧ dstOf ops j = some t
        · obtain ⟨j, hj, hd⟩ := hex
          have hback1 : ∀ p q, needs ops p q = true → q < p := by
            intro p q hpq
            unfold needs at hpq
            cases hop : ops[p]? with
            | none => rw [hop] at hpq; cases hpq
            | some op =>
              rw [hop] at hpq
              have hp : p < ops.size := (Array.getElem?_eq_some_iff.1 hop).1
              simp only [Option.map_some, Option.getD_some, Array.any_eq_true, Bool.and_eq_true, beq_iff_eq] at hpq
              obtain ⟨k, hk, hb, he⟩ := hpq
              have h1 := List.all_eq_true.1 hback p (List.mem_range.2 hp)
              rw [hop] at h1
              simp only [Option.map_some, Option.getD_some, Array.all_eq_true_iff_forall_mem, Bool.or_eq_true, Bool.not_eq_true', decide_eq_true_eq] at h1
              rcases h1 _ (Array.getElem_mem hk) with h | h
              · rw [hb] at h; cases h
              · rw [← he]; exact h
          have h3 := List.all_eq_true.1 hx2 j (List.mem_range.2 hj)
          have hor : needs ops i j = true ∨ needs ops j i = true := by simpa [hd] using h3
          rcases hor with hnj | hnj
          · have hji : j < i := hback1 i j hnj
            have hlt2 : t < a0.tmps.size := by
              have := List.all_eq_true.1 hslots j (List.mem_range.2 hj)
              rw [hd] at this
              simpa using this
            rw [putAll_get hdist v hd _ _ (List.mem_range.2 hji) hlt2]
            show (match dstOf ops j with | some d => a.tmps.getD d undef | none => undef) = _
            rw [hd]
          · have hij : i < j := hback1 j i hnj
            have hnl : listed.getD j false = false := by
              cases hlj : listed.getD j false with
              | false => rfl
              | true =>
                have := m.closed j i hlj hnj
                rw [hl] at this
                cases this
            rw [putAll_other _ _ _ _ _ (fun k hk hkd => by
              have := distinct_spec hdist hkd hd
              subst this
              have := List.mem_range.1 hk
              omega), m.other t (fun k hk hkd => by
              have := distinct_spec hdist hkd hd
              subst this
              rw [hnl] at hk
              cases hk)]
        · have hno : ∀ j, dstOf ops j ≠ some t := by
            intro j hd
            refine hex ⟨j, ?_, hd⟩
            unfold dstOf at hd
            rcases Nat.lt_or_ge j ops.size with h | h
            · exact h
            · simp [Array.getElem?_eq_none h] at hd
          rw [putAll_other _ _ _ _ _ (fun j _ => hno j), m.other t (fun j _ => hno j)]
      | const c => rfl
      | global g => rfl
      | func f => rfl
    have hcong : execOp (putAll ops v (List.range i) a0).eval o = execOp a.eval o := execOp_congr o hsel' hev
    have hdef0 : (putAll ops v (List.range i) a0).defers = a.defers := by rw [(putAll_tmps _ _ _ _).2, m.defers]
    refine Oper.wp_congr (a := putAll ops v (List.range i) a0) hcong ?_ ?_ (fun _ _ _ h => h) hstep
    · rintro u w' ⟨u', he, hVu, hSt, hR⟩
      have hu : ∀ d, o.dst = some d → u' = u := by
        intro d hd
        have hd' : d < (putAll ops v (List.range i) a0).tmps.size := by
          rw [(putAll_tmps _ _ _ _).1]
          have := List.all_eq_true.1 hslots i (List.mem_range.2 hlt)
          rw [hdst, hd] at this
          simpa using this
        have h1 := congrArg (fun x : Act => x.tmps.getD d undef) he
        simp only [put_get, hd, hd', and_self, if_true] at h1
        exact h1.symm
      refine ih _ _ _ ?_ ⟨by simpa using m.size, by rw [(put_tmps _ _ _).2]; exact m.defers, by rw [(put_tmps _ _ _).1]; exact m.tmps, ?_, ?_, ?_, hR, fun j k hj hjk => ?_⟩
      · have hsub : ((List.range ops.size).filter fun j => !(listed.setIfInBounds i true).getD j false).length < ((List.range ops.size).filter fun j => !listed.getD j false).length := by
          have e1 : ((List.range ops.size).filter fun j => !(listed.setIfInBounds i true).getD j false) = ((List.range ops.size).filter fun j => !listed.getD j false).filter fun j => j != i := by
            rw [List.filter_filter]
            refine List.filter_congr fun j hj => ?_
            by_cases hji : j = i
            · subst hji
              rw [getD_set_self (by rw [m.size]; exact hlt)]; simp
            · rw [getD_set_ne false (fun h => hji h.symm)]; simp [hji]
          rw [e1]
          have hmem : i ∈ (List.range ops.size).filter fun j => !listed.getD j false := List.mem_filter.2 ⟨List.mem_range.2 hlt, by rw [hl]; rfl⟩
          exact List.length_filter_lt_length_iff_exists.2 ⟨i, hmem, by simp⟩
        omega
      · intro j d hj hd
        by_cases hji : j = i
        · subst hji
          have hd2 : o.dst = some d := by rw [← hdst]; exact hd
          have hlt3 : d < a.tmps.size := by
            rw [m.tmps]
            have := List.all_eq_true.1 hslots j (List.mem_range.2 hlt)
            rw [hd] at this
            simpa using this
          rw [put_get, if_pos ⟨hd2, hlt3⟩, ← hu d hd2]
          rw [hd2] at hVu
          exact hVu
        · rw [getD_set_ne false (fun h => hji h.symm)] at hj
          have hne : o.dst ≠ some d := fun h => hji (distinct_spec hdist hd (hdst.trans h))
          rw [put_get, if_neg (fun h => hne h.1)]
          exact hV _ _ _ _ (m.done j d hj hd) hSt
      · intro j hj hd
        by_cases hji : j = i
        · subst hji
          have hd2 : o.dst = none := by rw [← hdst]; exact hd
          rw [hd2] at hVu
          exact hVu
        · rw [getD_set_ne false (fun h => hji h.symm)] at hj
          exact hV _ _ _ _ (m.nodst j hj hd) hSt
      · intro t ht
        have hne : o.dst ≠ some t := by
          rw [← hdst]
          exact ht i (getD_set_self (by rw [m.size]; exact hlt))
        rw [put_get, if_neg (fun h => hne h.1)]
        refine m.other t fun j hj => ht j ?_
        exact getD_set_true hj
      · by_cases hji : j = i
        · subst hji
          exact getD_set_true (hneed k hjk)
        · rw [getD_set_ne false (fun h => hji h.symm)] at hj
          exact getD_set_true (m.closed j k hj hjk)
    · rintro d w' ⟨u', he, _⟩
      have h1 := congrArg Act.defers he
      rw [(put_tmps _ _ _).2, (put_tmps _ _ _).2] at h1
      have h2 := congrArg List.length h1
      simp at h2
end
end Go.Proofs.YtinjbonodlkafaaDoor

/- Layer 1 (words): places, Fill. A region that draws, in a round of a loop over an iterator. -/
import Derived.Test.YtpldogmamifdpaaDoorWords
import Derived.Test.YtpldogmamifdpaaDoorConf2
set_option linter.unusedVariables false
set_option linter.unusedSimpArgs false
namespace Go.Proofs.YtpldogmamifdpaaDoor
open Go Go.RowKit Go.Shelf

attribute [local go_sem] Oper.semAt_some

/-! ### Operations that run off the fence, in a round -/
theorem oper_round {P : Program} {o : Oper} {n l : Nat} {a : Act} {w : World} {K : Act → World → Prop} {Q : Exit → Act → World → Prop} (hnd : ∀ c, o.op ≠ .defer c) (h : o.wp P a w K Q) : o.wpIn (Fence.wide.inRound l) n P a w K Q := by
  refine ⟨fun f _ => trivial, ?_⟩
  show o.uponIn _ _ _ _ _ _ ((o.semAt (some l) a.eval).run P w)
  rw [Oper.semAt_some l _ o hnd]
  unfold Oper.wp at h
  generalize (execOp a.eval o).run P w = r at *
  cases r with
  | ok x w' =>
    cases x with
    | value v => exact h
    | skip => exact h
    | defer d => exact h
    | enter f args => exact ⟨(fun h => by cases h), inRound_calls h⟩
    | row r args => exact ⟨(fun h => by cases h), fun c cs _ => let ⟨v, w', r, s⟩ := h c cs; ⟨v, w', r, stepsIn_wide.2 s⟩⟩
    | _ => exact (h : False).elim
  | halt x w' => cases x <;> exact h
theorem wpOps_round {P : Program} {ops : Array Oper} {Q : Exit → Act → World → Prop} {n l : Nat} (hnd : ∀ (i : Nat) (o : Oper), ops[i]? = some o → ∀ c, o.op ≠ .defer c) (hQ : ¬ LetsOut Q) :
    ∀ (L : List Nat) (a : Act) (w : World), wpOps P ops Q L a w → wpOpsIn (Fence.wide.inRound l) n P ops Q L a w
  | [], a, w, h => h
  | i :: rest, a, w, h => by
    simp only [wpOps] at h
    simp only [wpOpsIn]
    cases ho : ops[i]? with
    | none => rw [ho] at h; exact wpOps_round hnd hQ rest a w h
    | some o =>
      rw [ho] at h
      simp only at h ⊢
      by_cases hw : Region.wanted o (yielded ops a.tmps) = true
      · rw [if_pos hw] at h ⊢
        rcases h with h | h
        · exact oper_round (hnd i o ho) (Oper.wp_mono (fun a w h => wpOps_round hnd hQ rest a w h) h)
        · exact absurd h.2 hQ
      · rw [if_neg hw] at h ⊢
        exact ⟨fun f _ => trivial, wpOps_round hnd hQ rest _ w h⟩
def noDefer (ops : Array Oper) : Bool := ops.all fun o => match o.op with | .defer _ => false | _ => true
theorem noDefer_spec {ops : Array Oper} (h : noDefer ops = true) : ∀ (i : Nat) (o : Oper), ops[i]? = some o → ∀ c, o.op ≠ .defer c := by
  intro i o ho c e
  have := Array.all_eq_true_iff_forall_mem.1 h o (Array.mem_of_getElem? ho)
  rw [e] at this
  cases this
/-- A region that draws, in a round. -/
theorem wpIn_region_round {P : Program} {id : Nat} {ops : Array Oper} {Q : Exit → Act → World → Prop} {a0 : Act} {w : World} {n l : Nat} (V : Nat → Value → World → Prop) (R : World → Prop) (St : World → World → Prop) (hm : P.follows .mixedOrders = true)
    (hnd : noDefer ops = true) (hQ : ¬ LetsOut Q)
    (hdist : distinct ops = true) (hback : edgesBack ops = true) (htidy : tidy ops = true) (hslots : slotsIn ops a0.tmps.size = true)
    (hV : ∀ i v w w', V i v w → St w w' → V i v w') (hR : R w.drew) (hok : ∀ i, i < ops.size → OpOk P ops Q V R St a0 i)
    (hfin : ∀ v w, R w → (∀ i, i < ops.size → V i (v i) w) → Q .normal (putAll ops v (List.range ops.size) a0) w) : (Code.region id ops true).wpIn (Fence.wide.inRound l) n P Q a0 w := by
  refine wpIn_region_draw fun t => ?_
  simp only [Region.schedule, hm, Bool.true_or, if_true]
  refine wpOps_round (noDefer_spec hnd) hQ _ _ _ (wpAny_sound ops.size t _ a0 _ ?_)
  refine wpAny_conf hdist hback htidy hslots hV hok hfin ops.size _ a0 _ ?_ ⟨by simp, rfl, rfl, ?_, ?_, fun _ _ => rfl, hR, fun j k hj => by rw [rep_false] at hj; cases hj⟩
  · exact Nat.le_trans (List.length_filter_le _ _) (by simp)
  · intro i d hl
    rw [rep_false] at hl
    cases hl
  · intro i hl
    rw [rep_false] at hl
    cases hl

theorem opok_skip {P : Program} {ops : Array Oper} {Q : Exit → Act → World → Prop} {V : Nat → Value → World → Prop} {R : World → Prop} {St : World → World → Prop} {a0 : Act} {i : Nat} {o : Oper} (hd : distinct ops = true) (hs : slotsIn ops a0.tmps.size = true) (ho : ops[i]? = some o)
    (h : ∀ (ρ : Operand → Value) (w : World), (∀ j t, dstOf ops j = some t → decide (j < i) = true → needs ops i j = true → V j (ρ (.tmp t)) w) → (∀ t, ((List.range i).all fun j => dstOf ops j != some t) = true → ρ (.tmp t) = a0.eval (.tmp t)) → (∀ c, ρ (.const c) = c) → R w →
      ∃ w', (execOp ρ o).run P w = .ok .skip w' ∧ V i undef w' ∧ St w w' ∧ R w') : OpOk P ops Q V R St a0 i := by
  intro v w hR hn o' ho'
  obtain rfl := Option.some.inj (ho.symm.trans ho')
  obtain ⟨w', h1, h2, h3, h4⟩ := h (putAll ops v (List.range i) a0).eval w (fun j t hj hji hnd => by
    have hlt : t < a0.tmps.size := by
      have hjl : j < ops.size := by
        unfold dstOf at hj
        rcases Nat.lt_or_ge j ops.size with h | h
        · exact h
        · simp [Array.getElem?_eq_none h] at hj
      have := List.all_eq_true.1 hs j (List.mem_range.2 hjl)
      rw [hj] at this
      simpa using this
    rw [eval_put hd hj (of_decide_eq_true hji) hlt]
    exact hn j hnd) (fun t ht => eval_old ht) (fun c => rfl) hR
  unfold Oper.wp
  rw [h1]
  refine ⟨undef, rfl, ?_, h3, h4⟩
  cases o.dst <;> exact h2

/-! ### places -/
def Spot (Br : Nat) (a b : Int) (_ : List Nat) (W : World) : Prop := W.cell? ⟨Br, 0, none⟩ = some (.int .i64 a) ∧ W.cell? ⟨Br, 1, none⟩ = some (.int .i64 b)

set_option maxRecDepth 100000 in
set_option maxHeartbeats 2000000 in
theorem places_seq (n : Nat) (Br a b : Nat) (hab : a + b ≤ 100000) :
    Seq Fence.wide n Tryd.prog 55 #[.pointer (some ⟨Br, 0, none⟩)] (fun i : Nat => #[Value.int .i64 ((a : Int) + (i : Int))]) (Spot Br a b) (List.range b) := by
  intro l J W hAJ h0 hY
  obtain ⟨r0, r1⟩ := hAJ _ _ h0
  refine callsIn_of_wp Tryd.func55 rfl trivial ?_ rfl
  simp only [Tryd.ntmps55, List.size_toArray, List.length_cons, List.length_nil, Nat.reduceAdd, Nat.reduceSub, Array.replicate_succ, Array.replicate_zero, List.push_toArray, List.append_toArray, List.nil_append, List.cons_append]
  gi_wp2
  gi_loopw [6] (fun v wr => ∃ k : Nat, k ≤ b ∧ v = .int .i64 k ∧ J (List.range k) wr) (fun v _ => b - (intOf v).toNat)
  case atStart => exact ⟨0, by omega, rfl, h0⟩
  case round =>
    obtain ⟨k, hk, rfl, hj⟩ := hrel
    obtain ⟨r0, r1⟩ := hAJ _ _ hj
    by_cases hlt : k < b
    · have hsp : List.range b = List.range k ++ k :: (List.range (b - k - 1)).map (fun i => k + 1 + i) := by
        rw [show b = k + (1 + (b - k - 1)) by omega, List.range_add, List.range_add]
        simp [List.range_succ]
        omega
      obtain ⟨fn, tmps, assign, body, hy, hR⟩ := hY _ k _ wr hsp hj
      have W1 : IntKind.i64.wrap ((a : Int) + (k : Int)) = (a : Int) + (k : Int) := IntWalk.i64_in _ (by omega)
      have HS := Lib.hid hsp
      clear hsp
      gi_wp2
      refine ⟨(fun h => by cases h), hR.mono ?_⟩
      rintro e W3 ⟨rfl, hJ3⟩
      gi_wp2
      go_roundw
      case rel => exact ⟨k + 1, by omega, by go_num, by rw [List.range_succ]; exact hJ3⟩
      case measure => exact meas_lt (by omega)
    · obtain rfl : k = b := by omega
      gi_wp2
      go_end0
      exact ⟨⟨_, rfl⟩, hj⟩

theorem words_places (w : World) (a b : Int) :
    Calls Tryd.prog 42 #[.agg #[.int .i64 a, .int .i64 b]] w fun e w' =>
      e = .returned (.func (.func 55) #[] #[.pointer (some ⟨w.heap.size, 0, none⟩)]) ∧ w' = w.alloc (.cells #[.int .i64 a, .int .i64 b] 37) := by
  go_enter Tryd.func42, Tryd.ntmps42
  go_wp2_with fail
  go_ret
  exact ⟨rfl, rfl⟩

def fillL (W : List Int) (a : Nat) (v : Int) : Nat → List Int
  | 0 => W
  | k + 1 => (fillL W a v k).set (a + k) v
theorem fillL_length (W : List Int) (a : Nat) (v : Int) : ∀ k, (fillL W a v k).length = W.length
  | 0 => rfl
  | k + 1 => by rw [fillL, List.length_set]; exact fillL_length W a v k
theorem fillL_get (W : List Int) (a : Nat) (v : Int) (i : Nat) (hi : i < W.length) : ∀ k, (fillL W a v k).getD i 0 = if a ≤ i ∧ i < a + k then v else W.getD i 0
  | 0 => by rw [if_neg (by omega)]; rfl
  | k + 1 => by
    have hl := fillL_length W a v k
    rw [fillL]
    simp only [List.getD_eq_getElem?_getD, List.getElem?_set] at *
    have ih := fillL_get W a v i hi k
    simp only [List.getD_eq_getElem?_getD] at ih
    by_cases h : a + k = i
    · rw [if_pos h, if_pos (by omega), if_pos (by omega)]; rfl
    · rw [if_neg h, ih]
      by_cases h2 : a ≤ i ∧ i < a + k
      · rw [if_pos h2, if_pos (by omega)]
      · rw [if_neg h2, if_neg (by omega)]

/-- How the words stand while one of them is written: not yet, or written. -/
structure Mids (w0 : World) (m h : Nat) (L : List Int) (i : Nat) (v : Int) (w : World) : Prop where
  ch : Ch (One h) w0 w
  mem : MemAt w m h L ∨ MemAt w m h (L.set i v)

theorem mids_cells {w0 w' : World} {m h B0 B5 : Nat} {L : List Int} {i : Nat} {v : Int} (hi : i < L.length) (h0 : B0 ≠ h) (h5 : B5 ≠ h) (c3 : w0.cell? ⟨B0, 0, none⟩ = some (.pointer (some ⟨m, 0, none⟩))) (c5 : w0.cell? ⟨B5, 0, none⟩ = some (.int .u64 v)) (hM : Mids w0 m h L i v w') :
    w'.cell? ⟨B0, 0, none⟩ = some (.pointer (some ⟨m, 0, none⟩)) ∧ w'.cell? ⟨B5, 0, none⟩ = some (.int .u64 v) ∧ w'.cell? ⟨m, 0, none⟩ = some (.slice (some ⟨h, 0, none⟩) L.length L.length) ∧ (∃ x, w'.cell? ⟨h, i, none⟩ = some (.int .u64 x)) ∧ w'.frozen? ⟨h, i, none⟩ = false := by
  refine ⟨hM.ch.cell c3 h0, hM.ch.cell c5 h5, ?_, ?_⟩
  · rcases hM.mem with q | q
    · exact q.cell
    · have := q.cell; rwa [List.length_set] at this
  · rcases hM.mem with q | q
    · exact ⟨⟨L[i], cellOf q.row i (by simp [ints, hi])⟩, freeOf q.row i⟩
    · exact ⟨⟨(L.set i v)[i]'(by simpa using hi), cellOf q.row i (by simp [ints, hi])⟩, freeOf q.row i⟩

set_option maxRecDepth 100000 in
set_option maxHeartbeats 4000000 in
theorem words_Fill (w : World) (m h : Nat) (W : List Int) (a b : Nat) (v : Int) (hm : MemAt w m h W) (hab : a + b ≤ W.length) (hv : U64 v) :
    Calls Tryd.prog 23 #[.pointer (some ⟨m, 0, none⟩), .agg #[.int .i64 a, .int .i64 b], .int .u64 v] w fun e w' => e = .returned (.int .i64 0) ∧ MemAt w' m h (fillL W a v b) ∧ Ch (One h) w w' := by
  have hlt := hm.lt
  have hle := hm.le
  refine (callsIn_wide (n := 6)).1 ?_
  refine callsIn_of_wp_marks Tryd.func23 rfl trivial ?_ rfl
  simp only [Tryd.ntmps23, List.size_toArray, List.length_cons, List.length_nil, Nat.reduceAdd, Nat.reduceSub, Array.replicate_succ, Array.replicate_zero, List.push_toArray, List.append_toArray, List.nil_append, List.cons_append]
  gi_wp2
  obtain ⟨w3, hw3⟩ : ∃ z, ((w.alloc (.cells #[.pointer (some ⟨m, 0, none⟩)] 42)).alloc (.cells #[.int .i64 a, .int .i64 b] 37)).alloc (.cells #[.int .u64 v] 52) = z := ⟨_, rfl⟩
  rw [hw3]
  have hs3 : w3.heap.size = w.heap.size + 1 + 1 + 1 := by rw [← hw3]; simp
  have hc3 : Ch No w w3 := by rw [← hw3]; exact (((Ch.refl No w).alloc _).alloc _).alloc _
  have k0 : w3.heap[w.heap.size]? = some (.cells #[.pointer (some ⟨m, 0, none⟩)] 42 (0, 0)) := by
    rw [← hw3]
    exact (((Ch.refl No _).alloc _).alloc _).heap (World.alloc_heap_new _ _) (fun q => q)
  have k1 : w3.heap[w.heap.size + 1]? = some (.cells #[.int .i64 a, .int .i64 b] 37 (0, 0)) := by
    rw [← hw3]
    have := World.alloc_heap_new (w.alloc (.cells #[.pointer (some ⟨m, 0, none⟩)] 42)) (.cells #[.int .i64 a, .int .i64 b] 37)
    rw [World.size_alloc] at this
    exact ((Ch.refl No _).alloc _).heap this (fun q => q)
  have k2 : w3.heap[w.heap.size + 1 + 1]? = some (.cells #[.int .u64 v] 52 (0, 0)) := by
    rw [← hw3]
    have := World.alloc_heap_new ((w.alloc (.cells #[.pointer (some ⟨m, 0, none⟩)] 42)).alloc (.cells #[.int .i64 a, .int .i64 b] 37)) (.cells #[.int .u64 v] 52)
    simp only [World.size_alloc] at this
    exact this
  refine ⟨trivial, ?_⟩
  refine (callsIn_wide.2 (words_has w3 m h W a b (hm.ch0 hc3) (by omega) (by omega) (by omega))).mono ?_
  rintro e w4 ⟨rfl, hc4⟩
  have q0 := hc4.heap k0 (fun q => q)
  have q1 := hc4.heap k1 (fun q => q)
  have q2 := hc4.heap k2 (fun q => q)
  have d0 := cellOf q1 0 rfl
  have d1 := cellOf q1 1 rfl
  have hs4 := hc4.size
  have hm4 := (hm.ch0 hc3).ch0 hc4
  have hcw4 := hc3.trans hc4
  clear hw3 k0 k1 k2 hc3 hc4
  gi_wp2
  refine ⟨trivial, ?_⟩
  refine (callsIn_wide.2 (words_places _ a b)).mono ?_
  rintro e w5 ⟨rfl, rfl⟩
  gi_wp2
  have hbr := World.alloc_heap_new w4 (.cells #[.int .i64 a, .int .i64 b] 37)
  have hc5 : Ch No w4 (w4.alloc (.cells #[.int .i64 a, .int .i64 b] 37)) := (Ch.refl _ _).alloc _
  obtain ⟨B, hB⟩ : ∃ z, w4.heap.size = z := ⟨_, rfl⟩
  rw [hB] at hbr hs4 ⊢
  obtain ⟨w5, hw5⟩ : ∃ z, w4.alloc (.cells #[.int .i64 a, .int .i64 b] 37) = z := ⟨_, rfl⟩
  rw [hw5] at hbr hc5 ⊢
  have hs5 : w5.heap.size = B + 1 := by rw [← hw5, World.size_alloc, hB]
  have hm5 := hm4.ch0 hc5
  have b0 := hc5.heap q0 (fun q => q)
  have b2 := hc5.heap q2 (fun q => q)
  have hcw5 := hcw4.trans hc5
  clear hw5 hB hm4 q0 q1 q2 d0 d1 hc5 hcw4
  have r0 := cellOf hbr 0 rfl
  have r1 := cellOf hbr 1 rfl
  have c3 : w5.cell? ⟨w.heap.size, 0, none⟩ = some (.pointer (some ⟨m, 0, none⟩)) := cellOf b0 0 rfl
  have c5 : w5.cell? ⟨w.heap.size + 1 + 1, 0, none⟩ = some (.int .u64 v) := cellOf b2 0 rfl
  have nB : ¬ One h B := fun q => by have : B = h := q; omega
  have n0 : ¬ One h w.heap.size := fun q => by have : w.heap.size = h := q; omega
  have n2 : ¬ One h (w.heap.size + 1 + 1) := fun q => by have : w.heap.size + 1 + 1 = h := q; omega
  refine wp_seq rfl (by omega) (gf := 55) (lb := #[.pointer (some ⟨B, 0, none⟩)]) rfl trivial (enters_of Tryd.func55 (by kernel_rfl) rfl)
    (places_seq _ B a b (by omega)) (fun _ => rfl)
    (fun pre W' => MemAt W' m h (fillL W a v pre.length) ∧ Ch (One h) w5 W')
    (fun pre W' hi => ⟨hi.2.cell r0 nB, hi.2.cell r1 nB⟩)
    (OwnFrom.and (fun pre W' W'' row hs hg hr => ⟨hs.mh, hs.le, grown_cells hg hr hs.head, grown_cells hg hr hs.row, hs.rng⟩) (ownFrom_ch (Nat.le_refl _)))
    ⟨hm5, Ch.refl _ _⟩
    (fun i => { tmps := #[.pointer (some ⟨m, 0, none⟩), .agg #[.int .i64 a, .int .i64 b], .int .u64 v, .pointer (some ⟨w.heap.size, 0, none⟩), .pointer (some ⟨w.heap.size + 1, 0, none⟩), .pointer (some ⟨w.heap.size + 1 + 1, 0, none⟩), .int .i64 0, .int .i64 ((a : Int) + i), .pointer (some ⟨m, 0, none⟩), .agg #[.int .i64 a, .int .i64 b], .bool true, .bool false, .agg #[.int .i64 a, .int .i64 b], .func (.func 55) #[] #[.pointer (some ⟨B, 0, none⟩)], .int .i64 ((a : Int) + i), undef, undef, undef, undef, undef, undef, undef], defers := [] }) ?assign ?body ?done
  case assign =>
    intro l i W' K hK
    gi_wp2
    exact hK
  case body =>
    rintro l pre y rest W' hxs hge ⟨hmW, hcW⟩
    have hy : y = pre.length ∧ y < b := by
      have h1 := congrArg List.length hxs
      have h2 : (List.range b)[pre.length]? = some y := by rw [hxs]; simp
      simp only [List.length_range, List.length_append, List.length_cons] at h1
      rw [List.getElem?_range (by omega)] at h2
      have := Option.some.inj h2
      omega
    obtain ⟨hyp, hyb⟩ := hy
    have hl := fillL_length W a v y
    rw [← hyp] at hmW
    have hfl : fillL W a v (pre ++ [y]).length = (fillL W a v y).set (a + y) v := by rw [List.length_append, ← hyp]; rfl
    obtain ⟨L, hL⟩ : ∃ z, z = fillL W a v y := ⟨_, rfl⟩
    rw [← hL] at hmW hl hfl
    have hi : a + y < L.length := by omega
    have e3 := hcW.cell c3 n0
    have e5 := hcW.cell c5 n2
    have cells := fun w' (hM : Mids W' m h L (a + y) v w') => mids_cells hi n0 n2 e3 e5 hM
    have g1 : (0 : Int) ≤ (a : Int) + (y : Int) := by omega
    have g2 : (a : Int) + (y : Int) < (L.length : Int) := by omega
    have g3 : ((a : Int) + (y : Int)).toNat = a + y := by omega
    have HFL := Lib.hid hfl
    have HLL := Lib.hid hl
    clear hL hxs hfl hl hyp
    gi_wp2
    refine wpIn_region_round (fun j u w' => if j = 7 then MemAt w' m h (L.set (a + y) v) else u = ([.pointer (some ⟨m, 0, none⟩), .pointer (some ⟨m, 0, none⟩), .pointer (some ⟨m, 0, none⟩), .slice (some ⟨h, 0, none⟩) L.length L.length, .int .i64 ((a : Int) + y), .int .u64 v, .pointer (some ⟨h, a + y, none⟩)] : List Value).getD j undef)
      (Mids W' m h L (a + y) v) (fun w1 w2 => MemAt w1 m h (L.set (a + y) v) → MemAt w2 m h (L.set (a + y) v)) (by kernel_rfl) (by kernel_rfl) (fun ⟨_, _, q⟩ => q) (by kernel_rfl) (by kernel_rfl) (by kernel_rfl) (by kernel_rfl) ?hV ⟨(Ch.refl _ _).drew, .inl (hmW.ch0 (Ch.refl _ _).drew)⟩ ?hok ?hfin
    case hV =>
      intro j u w1 w2 hu hst
      by_cases h7 : j = 7
      · rw [if_pos h7] at hu ⊢; exact hst hu
      · rw [if_neg h7] at hu ⊢; exact hu
    case hfin =>
      intro u w' hR hV
      have hmE := hV 7 (by decide)
      rw [if_pos rfl] at hmE
      exact ⟨keepsFrom_ch hR.ch (fun k hk => by have : k = h := hk; omega), by rw [HFL.out]; exact hmE, hcW.trans hR.ch⟩
    case hok =>
      intro j hj
      have hj8 : j < 8 := hj
      have hall : j = 0 ∨ j = 1 ∨ j = 2 ∨ j = 3 ∨ j = 4 ∨ j = 5 ∨ j = 6 ∨ j = 7 := by omega
      rcases hall with rfl | rfl | rfl | rfl | rfl | rfl | rfl | rfl
      · refine opok_val (by kernel_rfl) (by kernel_rfl) (by rfl) ?_
        intro ρ w' hput hold hcon hR
        obtain ⟨z3, z5, zm, ⟨x, zh⟩, zf⟩ := cells w' hR
        have E : ρ (.tmp 3) = .pointer (some ⟨w.heap.size, 0, none⟩) := hold 3 (by kernel_rfl)
        exact ⟨.pointer (some ⟨m, 0, none⟩), w', by simp only [execOp, Option.map, E]; go_simp, rfl, fun q => q, hR⟩
      · refine opok_val (by kernel_rfl) (by kernel_rfl) (by rfl) ?_
        intro ρ w' hput hold hcon hR
        have E : ρ (.tmp 15) = .pointer (some ⟨m, 0, none⟩) := hput 0 15 (by kernel_rfl) (by kernel_rfl) (by kernel_rfl)
        exact ⟨.pointer (some ⟨m, 0, none⟩), w', by simp only [execOp, Option.map, E]; go_simp, rfl, fun q => q, hR⟩
      · refine opok_val (by kernel_rfl) (by kernel_rfl) (by rfl) ?_
        intro ρ w' hput hold hcon hR
        have E : ρ (.tmp 16) = .pointer (some ⟨m, 0, none⟩) := hput 1 16 (by kernel_rfl) (by kernel_rfl) (by kernel_rfl)
        exact ⟨.pointer (some ⟨m, 0, none⟩), w', by simp only [execOp, Option.map, E]; go_simp, rfl, fun q => q, hR⟩
      · refine opok_val (by kernel_rfl) (by kernel_rfl) (by rfl) ?_
        intro ρ w' hput hold hcon hR
        obtain ⟨z3, z5, zm, ⟨x, zh⟩, zf⟩ := cells w' hR
        have E : ρ (.tmp 17) = .pointer (some ⟨m, 0, none⟩) := hput 2 17 (by kernel_rfl) (by kernel_rfl) (by kernel_rfl)
        exact ⟨.slice (some ⟨h, 0, none⟩) L.length L.length, w', by simp only [execOp, Option.map, E]; go_simp, rfl, fun q => q, hR⟩
      · refine opok_val (by kernel_rfl) (by kernel_rfl) (by rfl) ?_
        intro ρ w' hput hold hcon hR
        have E : ρ (.tmp 7) = .int .i64 ((a : Int) + y) := hold 7 (by kernel_rfl)
        exact ⟨.int .i64 ((a : Int) + y), w', by simp only [execOp, Option.map, E]; go_simp, rfl, fun q => q, hR⟩
      · refine opok_val (by kernel_rfl) (by kernel_rfl) (by rfl) ?_
        intro ρ w' hput hold hcon hR
        obtain ⟨z3, z5, zm, ⟨x, zh⟩, zf⟩ := cells w' hR
        have E : ρ (.tmp 5) = .pointer (some ⟨w.heap.size + 1 + 1, 0, none⟩) := hold 5 (by kernel_rfl)
        exact ⟨.int .u64 v, w', by simp only [execOp, Option.map, E]; go_simp, rfl, fun q => q, hR⟩
      · refine opok_val (by kernel_rfl) (by kernel_rfl) (by rfl) ?_
        intro ρ w' hput hold hcon hR
        have E : ρ (.tmp 18) = .slice (some ⟨h, 0, none⟩) L.length L.length := hput 3 18 (by kernel_rfl) (by kernel_rfl) (by kernel_rfl)
        have E2 : ρ (.tmp 19) = .int .i64 ((a : Int) + y) := hput 4 19 (by kernel_rfl) (by kernel_rfl) (by kernel_rfl)
        exact ⟨.pointer (some ⟨h, a + y, none⟩), w', by simp only [execOp, Option.map, E, E2]; go_simp, rfl, fun q => q, hR⟩
      · refine opok_skip (by kernel_rfl) (by kernel_rfl) (by rfl) ?_
        intro ρ w' hput hold hcon hR
        obtain ⟨z3, z5, zm, ⟨x, zh⟩, zf⟩ := cells w' hR
        have E : ρ (.tmp 21) = .pointer (some ⟨h, a + y, none⟩) := hput 6 21 (by kernel_rfl) (by kernel_rfl) (by kernel_rfl)
        have E2 : ρ (.tmp 20) = .int .u64 v := hput 5 20 (by kernel_rfl) (by kernel_rfl) (by kernel_rfl)
        have hset : MemAt (w'.setCell ⟨h, a + y, none⟩ (.int .u64 v)) m h (L.set (a + y) v) := by
          rcases hR.mem with q | q
          · exact q.set (a + y) v hv
          · have := q.set (a + y) v hv; rwa [List.set_set] at this
        exact ⟨w'.setCell ⟨h, a + y, none⟩ (.int .u64 v), by simp only [execOp, Option.map, E, E2]; go_simp, hset, fun _ => hset, hR.ch.setIn (p := ⟨h, a + y, none⟩) rfl _, .inr hset⟩
  case done =>
    rintro D W' hD ⟨hmW, hcW⟩ hK
    gi_wp2
    refine ⟨by simp, .inl ⟨_, _, rfl, run_takeDeferred hK, ?_⟩⟩
    have hgr := grownBy_putObj' W' D (.deferred none)
    have hrr : ∀ r, some D = some r → w5.heap.size ≤ r ∧ ∃ o : Obj, W'.heap[r]? = some o ∧ o.isCells = false := fun r e => by cases e; exact ⟨hD, _, hK, rfl⟩
    rw [List.length_range] at hmW
    exact ⟨_, results_tmp rfl _ _ _, rfl, ⟨hmW.mh, hmW.le, grown_cells hgr hrr hmW.head, grown_cells hgr hrr hmW.row, hmW.rng⟩, ((hcw5.ofNo (F := One h)).trans hcW).grown hgr (fun k e => by cases e; exact .inl (by omega))⟩
end Go.Proofs.YtpldogmamifdpaaDoor

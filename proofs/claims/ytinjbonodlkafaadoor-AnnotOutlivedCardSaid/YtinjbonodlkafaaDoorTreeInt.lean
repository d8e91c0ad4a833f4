/- Layer 5 (tree): Walk, Interval, Within. -/
import Derived.Test.YtinjbonodlkafaaDoorTreeWalk2
import Derived.Test.YtinjbonodlkafaaDoorCollect
set_option linter.unusedVariables false
set_option linter.unusedSimpArgs false
namespace Go.Proofs.YtinjbonodlkafaaDoor
open Go Go.RowKit Go.Shelf

attribute [local go_sem] Oper.semAt_some

/-- The walk's facts stay where nothing that was there turns. -/
theorem WalkA.ch0 {t m : Nat} {L : TRows} {B1 B2 : Nat} {id : Int} {W W' : World} (h : WalkA t m L B1 B2 id W) (hc : Ch No W W') : WalkA t m L B1 B2 id W' :=
  ⟨h.tree.ch0 hc, hc.cell h.b1 (fun q => q), hc.cell h.b2 (fun q => q)⟩
theorem WalkA.new {t m : Nat} {L : TRows} {id : Int} {w : World} (h : TreeAt w t m L) : WalkA t m L w.heap.size (w.heap.size + 1) id ((w.alloc (.cells #[.pointer (some ⟨t, 0, none⟩)] 24)).alloc (.cells #[.int .i64 id] 3)) := by
  have h1 := World.alloc_heap_new w (.cells #[.pointer (some ⟨t, 0, none⟩)] 24)
  have h2 := World.alloc_heap_new (w.alloc (.cells #[.pointer (some ⟨t, 0, none⟩)] 24)) (.cells #[.int .i64 id] 3)
  rw [World.size_alloc] at h2
  exact ⟨h.ch0 (((Ch.refl _ _).alloc _).alloc _), cellOf (heap_al h1 _) 0 rfl, cellOf h2 0 rfl⟩

theorem slices_Collect (w : World) (g : Nat) (lb : Array Value) (A : World → Prop) (xs : List Int) (eg : ∀ args w, (callFunc g args).run Tryd.prog w = .ok (.enter g args) w) (hseq : SeqR Tryd.prog g lb (fun i : Int => #[.int .i64 i]) A xs) (hA : ∀ W, Ch No w W → A W) (hx : xs.length ≤ 100000) :
    Calls Tryd.prog 22 #[.func (.func g) #[] lb] w fun e w' => ∃ v, e = .returned v ∧ w'.ownsRow w.heap.size 3 1 v xs.length (xs.map (Value.int .i64)) ∧ Ch No w w' := by
  have h := slices_AppendSeq w g lb A xs eg hseq hA hx
  go_enter Tryd.func22, Tryd.ntmps22
  go_wp2_with fail
  with_reducible refine h.mono ?_
  rintro e w1 ⟨v, rfl, ho, hc⟩
  dsimp only
  go_wp2_with fail
  go_ret
  exact ⟨v, rfl, ho, hc⟩

theorem ids_I64 {L : TRows} {n : Nat} (ok : TreeOk L n) (b : Int) : ∀ x ∈ sub L b, I64 x := fun x hx => by
  obtain ⟨p, hp⟩ := sub_ids ok b x hx
  have := ok.ids _ hp
  simp only at this
  exact show _ ∧ _ from by omega

theorem tree_Walk (F : Nat → Prop) (w : World) (t m n : Nat) (L : TRows) (h : TreeAt w t m L) (ok : TreeOk L n) (hl : L.length ≤ 100000) (hF : ∀ k, F k → k < w.heap.size) :
    Calls Tryd.prog 8 #[.pointer (some ⟨t, 0, none⟩)] w fun e w' => ∃ q c, e = .returned (.slice q (sub L 0).length c) ∧ SlR (intRp .i64) F w' q c (sub L 0) ∧ Ch No w w' := by
  have hw := tree_walk w t 0
  obtain ⟨w2, hw2⟩ : ∃ z, z = (w.alloc (.cells #[.pointer (some ⟨t, 0, none⟩)] 24)).alloc (.cells #[.int .i64 0] 3) := ⟨_, rfl⟩
  have hA2 : WalkA t m L w.heap.size (w.heap.size + 1) 0 w2 := by rw [hw2]; exact WalkA.new h
  have hc2 : Ch No w w2 := by rw [hw2]; exact ((Ch.refl _ _).alloc _).alloc _
  have hcl := slices_Collect w2 _ _ _ (sub L 0) (enters_of Tryd.func34 (by kernel_rfl) rfl) (walk_seq t m n L ok hl 0 w.heap.size (w.heap.size + 1)) (fun W hc => hA2.ch0 hc) (Nat.le_trans (subT_length ok 0) hl)
  rw [← hw2] at hw
  have hI := ids_I64 ok 0
  obtain ⟨xs, hxs⟩ : ∃ z, z = sub L 0 := ⟨_, rfl⟩
  rw [← hxs] at hcl hI ⊢
  have HW := Lib.hid hw2
  clear hw2 hxs hA2
  go_enter Tryd.func8, Tryd.ntmps8
  go_wp2_with fail
  with_reducible refine hw.mono ?_
  rintro e w1 ⟨rfl, rfl⟩
  dsimp only
  go_wp2_with fail
  with_reducible refine hcl.mono ?_
  rintro e w3 ⟨v, rfl, ho, hc3⟩
  dsimp only
  go_wp2_with fail
  go_ret
  have hOw : OwnR (intRp .i64) w1.heap.size 3 F w3 v xs := OwnR.ofInts ho rfl hI
  obtain ⟨q, c, hv, hs⟩ := hOw.sl (fun k q => by have := hF k q; have := hc2.size; omega)
  exact ⟨q, c, by rw [hv]; rfl, hs, hc2.trans hc3⟩

theorem idx_min {x : Int} : ∀ (l : List Int) (j : Nat) (hj : j < l.length), l[j] = x → l.idxOf x ≤ j
  | [], j, hj, _ => by simp at hj
  | y :: r, 0, _, e => by
    simp only [List.getElem_cons_zero] at e
    rw [List.idxOf_cons]
    simp [e]
  | y :: r, j + 1, hj, e => by
    simp only [List.getElem_cons_succ] at e
    have := idx_min r j (by simpa using hj) e
    rw [List.idxOf_cons]
    cases (y == x) <;> simp <;> omega

theorem slices_Index (F : Nat → Prop) (w : World) (q : Option Addr) (c : Nat) (l : List Int) (x : Int) (h : SlR (intRp .i64) F w q c l) (hx : x ∈ l) (hl : l.length ≤ 100000) :
    Calls Tryd.prog 42 #[.slice q l.length c, .int .i64 x] w fun e w' => e = .returned (.int .i64 (l.idxOf x : Nat)) ∧ w = w' := by
  go_enter Tryd.func42, Tryd.ntmps42
  go_wp2_with fail
  go_loopw [8] (fun v wr => ∃ i : Nat, i ≤ l.idxOf x ∧ v = .int .i64 i ∧ w = wr) (fun v _ => l.length - (intOf v).toNat)
  case atStart => exact ⟨0, by omega, rfl, rfl⟩
  case round =>
    obtain ⟨i, hi, rfl, rfl⟩ := hrel
    have hlt0 := List.idxOf_lt_length_iff.2 hx
    have hlt : i < l.length := by omega
    obtain ⟨bq, off, rfl, _, _, d0, _⟩ := h.int_at i hlt
    by_cases he : l[i] = x
    · have hidx : l.idxOf x = i := by
        have := idx_min l i hlt he
        omega
      have b1 : (x == x) = true := by simp
      rw [he] at d0
      have HI := Lib.hid hidx
      clear hidx he hlt0
      go_wp2_with fail
      go_ret
      exact ⟨by rw [HI.out]; rfl, rfl⟩
    · have hne : i ≠ l.idxOf x := by
        rintro rfl
        exact he (by simp)
      obtain ⟨y, hy⟩ : ∃ z, z = l[i] := ⟨_, rfl⟩
      rw [← hy] at d0 he
      have b1 : (x == y) = false := by simp; exact fun e => he e.symm
      have HL := Lib.hid (show i + 1 ≤ l.idxOf x from by omega)
      clear he hy hne hlt0
      go_wp2_with fail
      go_roundw
      case rel => exact ⟨i + 1, HL.out, by go_num, by first | rfl | trivial⟩
      case measure => exact meas_lt (by omega)
end Go.Proofs.YtinjbonodlkafaaDoor

/- Layer 14 (annot): the chapter's example; a tree grown, and the document's; plain. -/
import Derived.Test.YtinjbonodlkafaaDoorAnnotB
import Derived.Test.YtinjbonodlkafaaDoorTreeB
import Derived.Test.YtinjbonodlkafaaDoorActs05
import Derived.Test.YtinjbonodlkafaaDoorRef05d
import Derived.Test.YtinjbonodlkafaaDoorSame04
set_option linter.unusedVariables false
set_option linter.unusedSimpArgs false
namespace Go.Proofs.YtinjbonodlkafaaDoor
open Go Go.RowKit

set_option maxRecDepth 100000 in
theorem fixed14 (w : World) (hW : Wt w) : Calls Tryd.prog 6 #[] w fun e w' => e = .returned (.bool true) ∧ Ch No w w' := by
  have hgl := hW.lt
  go_enter Tryd.func6, Tryd.ntmps6
  go_wp2_with fail
  with_reducible refine (tree_New w).mono ?_
  rintro e w1 ⟨t, m, rfl, hT1, ht, hm, hc1⟩
  have ok1 := tPut_ok TreeOk.nil 1 0 (by omega) (by omega)
  have g1 := tree_Add w1 t m 0 [] 1 0 hT1 TreeOk.nil
  rw [show tPut [] 1 0 = ([(1, 0)], 0) from by decide] at g1 ok1
  dsimp only at g1 ok1
  have ok2 := tPut_ok ok1 2 1 (by omega) (by omega)
  rw [show tPut [(1, 0)] 2 1 = ([(1, 0), (2, 1)], 0) from by decide] at ok2
  dsimp only at ok2
  have hnm : ¬ One m 0 := fun e => by have : 0 = m := e; omega
  dsimp only
  go_wp2_with fail
  with_reducible refine g1.mono ?_
  rintro e w2 ⟨rfl, hT2, hc2⟩
  have g2 := tree_Add w2 t m 1 _ 2 1 hT2 ok1
  rw [show tPut [(1, 0)] 2 1 = ([(1, 0), (2, 1)], 0) from by decide] at g2
  dsimp only at g2
  dsimp only
  go_wp2_with fail
  with_reducible refine g2.mono ?_
  rintro e w3 ⟨rfl, hT3, hc3⟩
  have hW3 := ((hW.ch0 hc1).ch hc2 hnm).ch hc3 hnm
  have g3 := annot_Check w3 t m 2 _ 3 2 1 hT3 ok2 (by simp) hW3 (show _ ∧ _ from by omega)
  rw [show chk [(1, 0), (2, 1)] 3 2 1 = 0 from by kernel_rfl] at g3
  dsimp only
  go_wp2_with fail
  with_reducible refine g3.mono ?_
  rintro e w4 ⟨rfl, hc4⟩
  have g4 := annot_Check w4 t m 2 _ 3 1 2 (hT3.ch0 hc4) ok2 (by simp) (hW3.ch0 hc4) (show _ ∧ _ from by omega)
  rw [show chk [(1, 0), (2, 1)] 3 1 2 = 5 from by kernel_rfl] at g4
  dsimp only
  go_wp2_with fail
  with_reducible refine g4.mono ?_
  rintro e w5 ⟨rfl, hc5⟩
  dsimp only
  go_wp2_with fail
  go_ret
  have h4 : ∀ k, One m k → No k ∨ w.heap.size ≤ k := fun k e => .inr (by have : k = m := e; omega)
  exact ⟨rfl, (((hc1.andThen hc2 h4).andThen hc3 h4).trans hc4).trans hc5⟩

set_option maxRecDepth 100000 in
set_option maxHeartbeats 4000000 in
theorem grown14 (F : Nat → Prop) (w : World) (a : Option Addr) (c : Nat) (l : List TAct) (h : SlR tactRp No w a c l) (hl60 : l.length ≤ 60) :
    Calls Tryd.prog 7 #[.slice a l.length c] w fun e w' => ∃ (t m : Nat) (L : TRows) (bx ox cx : Nat), e = .returned (.tuple #[.pointer (some ⟨t, 0, none⟩), .slice (some ⟨bx, ox, none⟩) L.length cx]) ∧ TreeAt w' t m L ∧ TreeOk L l.length ∧ L.length ≤ 60 ∧ SlR (pairRp .i64) (One m) w' (some ⟨bx, ox, none⟩) cx L ∧ w.heap.size ≤ m ∧ Ch No w w' := by
  go_enter Tryd.func7, Tryd.ntmps7
  go_wp2_with fail
  with_reducible refine (tree_New w).mono ?_
  rintro e w1 ⟨t, m, rfl, hT1, ht, hm, hc1⟩
  have hnn : ∀ k, One m k → No k ∨ w.heap.size ≤ k := fun k e => .inr (by have : k = m := e; omega)
  have hX0 : SlR (pairRp .i64) (One m) (w1.alloc (.cells #[] 68)) (some ⟨w1.heap.size, 0, none⟩) 0 [] := by
    refine ⟨by simp, by unfold maxLen; omega, fun q => (by cases q), fun q => absurd rfl q⟩
  have hT1' := hT1.ch0 ((Ch.refl No w1).alloc (.cells #[] 68))
  have hc1' := hc1.alloc (.cells #[] 68)
  dsimp only
  go_wp2_with fail
  go_loopw [5, 16] (fun v i wr => ∃ (k : Nat) (L : TRows) (bx ox cx : Nat), k ≤ l.length ∧ v = .slice (some ⟨bx, ox, none⟩) L.length cx ∧ i = .int .i64 k ∧ TreeAt wr t m L ∧ TreeOk L k ∧ L.length ≤ k ∧ SlR (pairRp .i64) (One m) wr (some ⟨bx, ox, none⟩) cx L ∧ Ch No w wr) (fun _ i _ => l.length - (intOf i).toNat)
  case atStart => exact ⟨0, [], _, _, 0, by omega, rfl, rfl, hT1', TreeOk.nil, by simp, hX0, hc1'⟩
  case round =>
    obtain ⟨k, L, bx, ox, cx, hk, rfl, rfl, hT, ok, hLk, hxs, hc⟩ := hrel
    clear hT1 hc1 hT1' hc1' hX0
    by_cases hlt : k < l.length
    · obtain ⟨b, off, rfl, _, d0, d1, d2, ia, ib⟩ := (h.ch0 hc).tact_at k hlt
      obtain ⟨A, hA⟩ : ∃ A, A = l[k] := ⟨_, rfl⟩
      rw [← hA] at d0 d1 d2 ia ib
      clear hA h
      have oka := tAct_ok ok A ia (by omega)
      have hal := tAct_length L A
      obtain ⟨x, p, o⟩ := A
      dsimp only at d0 d1 d2 ia ib
      have hca : Ch No wr (wr.alloc (.cells #[.int .i64 x, .int .i64 p, .bool o] 47)) := (Ch.refl _ _).alloc _
      have hk8 : (wr.alloc (.cells #[.int .i64 x, .int .i64 p, .bool o] 47)).heap[wr.heap.size]? = some (.cells #[.int .i64 x, .int .i64 p, .bool o] 47 (0, 0)) := heap_alloc_new _ _
      have hn8 : ¬ One m wr.heap.size := fun e => by have : wr.heap.size = m := e; have := hT.lt; omega
      cases o with
      | true =>
        rw [show tAct L ⟨x, p, true⟩ = tOut L x from rfl] at oka hal
        have hcl := tree_Remove _ t m k L x (hT.ch0 hca) ok (by omega)
        have hrf := fun W (hW : SlR (pairRp .i64) (One m) W (some ⟨bx, ox, none⟩) cx L) (hs : m < W.heap.size) => ref05_Remove (One m) W _ cx L x hW (by omega) (fun k e => by have : k = m := e; omega)
        obtain ⟨L2, hL2⟩ : ∃ z, z = (tOut L x).1 := ⟨_, rfl⟩
        obtain ⟨E, hE⟩ : ∃ z, z = (tOut L x).2 := ⟨_, rfl⟩
        rw [← hL2] at oka hal
        simp only [← hL2, ← hE] at hcl hrf
        clear hL2 hE
        go_wp2_with fail
        with_reducible refine hcl.mono ?_
        rintro e w2 ⟨rfl, hT2, hc2⟩
        have hx2 := (hxs.ch0 hca).chF hc2
        have hm2 : m < w2.heap.size := hT2.lt.2
        have y0 := hc2.cell (cellOf hk8 0 rfl) hn8
        have y1 := hc2.cell (cellOf hk8 1 rfl) hn8
        dsimp only
        go_wp2_with fail
        with_reducible refine (hrf w2 hx2 hm2).mono ?_
        rintro e w3 ⟨q3, c3, rfl, hx3, hsm3, hc3⟩
        obtain ⟨b3', o3', rfl⟩ := hsm3 ⟨_, _, rfl⟩
        dsimp only
        go_wp2_with fail
        go_roundw
        case rel => exact ⟨k + 1, L2, b3', o3', c3, by omega, rfl, by go_num, hT2.ch0 hc3, oka, by omega, hx3, ((hc.trans hca).andThen hc2 hnn).trans hc3⟩
        case measure => exact meas_lt (by omega)
      | false =>
        rw [show tAct L ⟨x, p, false⟩ = tPut L x p from rfl] at oka hal
        have hcl := tree_Add _ t m k L x p (hT.ch0 hca) ok
        have hrf := fun W (hW : SlR (pairRp .i64) (One m) W (some ⟨bx, ox, none⟩) cx L) (hs : m < W.heap.size) => ref05_Add (One m) W bx ox cx L x p hW ia ib (by omega) (fun k e => by have : k = m := e; omega)
        obtain ⟨L2, hL2⟩ : ∃ z, z = (tPut L x p).1 := ⟨_, rfl⟩
        obtain ⟨E, hE⟩ : ∃ z, z = (tPut L x p).2 := ⟨_, rfl⟩
        rw [← hL2] at oka hal
        simp only [← hL2, ← hE] at hcl hrf
        clear hL2 hE
        go_wp2_with fail
        with_reducible refine hcl.mono ?_
        rintro e w2 ⟨rfl, hT2, hc2⟩
        have hx2 := (hxs.ch0 hca).chF hc2
        have hm2 : m < w2.heap.size := hT2.lt.2
        have y0 := hc2.cell (cellOf hk8 0 rfl) hn8
        have y1 := hc2.cell (cellOf hk8 1 rfl) hn8
        dsimp only
        go_wp2_with fail
        with_reducible refine (hrf w2 hx2 hm2).mono ?_
        rintro e w3 ⟨b3', o3', c3, rfl, hx3, hc3⟩
        dsimp only
        go_wp2_with fail
        go_roundw
        case rel => exact ⟨k + 1, L2, b3', o3', c3, by omega, rfl, by go_num, hT2.ch0 hc3, oka, by omega, hx3, ((hc.trans hca).andThen hc2 hnn).trans hc3⟩
        case measure => exact meas_lt (by omega)
    · obtain rfl : k = l.length := by omega
      clear h
      go_wp2_with fail
      go_ret2
      exact ⟨t, m, L, bx, ox, cx, rfl, hT, ok, by omega, hxs, hm, hc⟩

/-! ### Plain -/
theorem sub_trans {L : TRows} {n : Nat} (ok : TreeOk L n) {a b c : Int} (h1 : a ∈ sub L b) (h2 : b ∈ sub L c) : a ∈ sub L c := by
  obtain ⟨pre, post, hs⟩ := sub_block ok c b h2
  rw [hs]
  simp [h1]
theorem chk_up {L : TRows} {n : Nat} (ok : TreeOk L n) {a b : Int} (ha : hasB L a = true) (hb : hasB L b = true) : chk L 3 a b = 0 ↔ (a = b ∨ a ∈ sub L b) := by
  obtain ⟨q, hq⟩ := (hasB_true ok.up).1 hb
  have hb0 := (ok.ids _ hq).1
  simp only at hb0
  have e : inB L a b = true ↔ (a = b ∨ a ∈ sub L b) := by unfold inB; rw [ha, hb]; simp
  unfold chk
  rw [if_neg (by decide), if_neg (by omega), if_neg (by rw [ha, hb]; simp)]
  rw [← e]
  cases inB L a b <;> simp
theorem chk_same {L : TRows} {n : Nat} (ok : TreeOk L n) {a b : Int} (ha : hasB L a = true) (hb : hasB L b = true) : chk L 2 a b = 0 ↔ a = b := by
  obtain ⟨q, hq⟩ := (hasB_true ok.up).1 hb
  have hb0 := (ok.ids _ hq).1
  simp only at hb0
  unfold chk
  rw [if_neg (by decide), if_neg (by omega), if_neg (by rw [ha, hb]; simp)]
  by_cases e : a = b <;> simp [e]
theorem chk_counted {L : TRows} {n : Nat} (ok : TreeOk L n) {a b : Int} (ha : hasB L a = true) (hb : hasB L b = true) : chk L 1 a b = 0 := by
  unfold chk
  rw [if_neg (by decide)]
  split
  · rfl
  · rw [if_neg (by rw [ha, hb]; simp), if_neg (by simp)]
theorem mem_tg {L : TRows} {n : Nat} (ok : TreeOk L n) {k h x : Int} : x ∈ tg L k h ↔ hasB L x = true ∧ chk L k h x = 0 := by
  unfold tg
  rw [List.mem_filter, List.mem_map, decide_eq_true_eq, hasB_true ok.up]
  constructor
  · rintro ⟨⟨⟨a, b⟩, h1, rfl⟩, h2⟩; exact ⟨⟨b, h1⟩, h2⟩
  · rintro ⟨⟨p, hp⟩, h2⟩; exact ⟨⟨_, hp, rfl⟩, h2⟩
theorem tg_up {L : TRows} {n : Nat} (ok : TreeOk L n) (k h : Int) : (tg L k h).Pairwise (· < ·) := List.Pairwise.filter _ (List.pairwise_map.2 ok.up)
theorem tg_same {L : TRows} {n : Nat} (ok : TreeOk L n) {h : Int} (hh : hasB L h = true) : tg L 2 h = [h] :=
  rising_eq (tg_up ok 2 h) (by simp) (fun x => by
    rw [mem_tg ok, List.mem_singleton]
    constructor
    · rintro ⟨h1, h2⟩; exact ((chk_same ok hh h1).1 h2).symm
    · rintro rfl; exact ⟨hh, (chk_same ok hh hh).2 rfl⟩)
theorem tg_counted {L : TRows} {n : Nat} (ok : TreeOk L n) {h : Int} (hh : hasB L h = true) : (tg L 1 h).length = L.length := by
  unfold tg
  rw [List.filter_eq_self.2 (fun x hx => ?_), List.length_map]
  obtain ⟨⟨a, b⟩, h1, rfl⟩ := List.mem_map.1 hx
  exact decide_eq_true (chk_counted ok hh ((hasB_true ok.up).2 ⟨b, h1⟩))
theorem tg_self {L : TRows} {n : Nat} (ok : TreeOk L n) {h k : Int} (hh : hasB L h = true) (hk : k = 2 ∨ k = 3) : h ∈ tg L k h := by
  rw [mem_tg ok]
  refine ⟨hh, ?_⟩
  rcases hk with rfl | rfl
  · exact (chk_same ok hh hh).2 rfl
  · exact (chk_up ok hh hh).2 (.inl rfl)
/-- What stands above another one isn't taken out. -/
theorem tg_busy {L : TRows} {n : Nat} (ok : TreeOk L n) {h x k : Int} (hh : hasB L h = true) (hk : k = 2 ∨ k = 3) (hx : x ∈ tg L k h) : inB L h x = true ∧ (x ≠ h → tOut L x = (L, 6)) := by
  obtain ⟨h1, h2⟩ := (mem_tg ok).1 hx
  have hu : h = x ∨ h ∈ sub L x := by
    rcases hk with rfl | rfl
    · exact .inl ((chk_same ok hh h1).1 h2)
    · exact (chk_up ok hh h1).1 h2
  refine ⟨by unfold inB; rw [hh, h1]; simp [hu], fun hne => ?_⟩
  have hs : h ∈ sub L x := hu.resolve_left (fun e => hne e.symm)
  have hkd : kids L x ≠ [] := fun e => by rw [sub_eq ok, e] at hs; simp at hs
  unfold tOut
  rw [if_neg (by rw [h1]; simp), if_pos hkd]

/-- The way up, as far as it was gone. -/
structure UpTo (L : TRows) (hgt : Int → Nat) (h : Int) (done : List Int) (id : Int) : Prop where
  nd : done.Nodup
  has : ∀ x ∈ done, hasB L x = true ∧ (h = x ∨ h ∈ sub L x)
  low : ∀ x ∈ done, hgt x < hgt id
  here : id = 0 ∨ (hasB L id = true ∧ (h = id ∨ h ∈ sub L id))
  all : ∀ x, hasB L x = true → (h = x ∨ h ∈ sub L x) → x ∈ done ∨ (id ≠ 0 ∧ (id = x ∨ id ∈ sub L x))
theorem UpTo.start {L : TRows} {hgt : Int → Nat} {h : Int} (hh : hasB L h = true) (h0 : h ≠ 0) : UpTo L hgt h [] h :=
  ⟨by simp, by simp, by simp, .inr ⟨hh, .inl rfl⟩, fun x _ hx => .inr ⟨h0, hx⟩⟩
theorem UpTo.step {L : TRows} {n : Nat} (ok : TreeOk L n) {hgt : Int → Nat} (hh : ∀ x ∈ L, hgt x.1 < hgt x.2) {h : Int} {done : List Int} {id p : Int} (hu : UpTo L hgt h done id) (h0 : id ≠ 0) (hp : (id, p) ∈ L) : UpTo L hgt h (done ++ [id]) p := by
  have hi := hu.here.resolve_left h0
  have hlt := hh _ hp
  simp only at hlt
  refine ⟨?_, ?_, ?_, ?_, ?_⟩
  · refine List.nodup_append.2 ⟨hu.nd, by simp, fun a ha b hb => ?_⟩
    rw [List.mem_singleton.1 hb]
    rintro rfl
    have := hu.low a ha
    omega
  · intro x hx
    rcases List.mem_append.1 hx with hx | hx
    · exact hu.has x hx
    · rw [List.mem_singleton.1 hx]; exact hi
  · intro x hx
    rcases List.mem_append.1 hx with hx | hx
    · have := hu.low x hx; omega
    · rw [List.mem_singleton.1 hx]; exact hlt
  · rcases (ok.ids _ hp).2.2 with e | ⟨q, hq⟩
    · exact .inl e
    · have hs : id ∈ sub L p := (sub_step ok hp).2 (.inl rfl)
      refine .inr ⟨(hasB_true ok.up).2 ⟨q, hq⟩, .inr ?_⟩
      rcases hi.2 with e | e
      · rw [e]; exact hs
      · exact sub_trans ok e hs
  · intro x hx hhx
    rcases hu.all x hx hhx with e | ⟨_, e⟩
    · exact .inl (List.mem_append_left _ e)
    · rcases e with e | e
      · exact .inl (by rw [e]; simp)
      · refine .inr ⟨?_, (sub_step ok hp).1 e⟩
        rintro rfl
        have hx0 : x ≠ 0 := by
          obtain ⟨q, hq⟩ := (hasB_true ok.up).1 hx
          have := (ok.ids _ hq).1
          simp only at this
          omega
        rcases (sub_step ok hp).1 e with z | z
        · exact hx0 z.symm
        · exact zero_sub ok x z
theorem UpTo.finish {L : TRows} {n : Nat} (ok : TreeOk L n) {hgt : Int → Nat} {h : Int} {done : List Int} (hu : UpTo L hgt h done 0) (hh : hasB L h = true) : (tg L 3 h).length = done.length := by
  have hp : done.Perm (tg L 3 h) := (List.perm_ext_iff_of_nodup hu.nd ((tg_up ok 3 h).imp (fun h => by omega))).2 (fun x => by
    rw [mem_tg ok]
    constructor
    · intro hx
      obtain ⟨h1, h2⟩ := hu.has x hx
      exact ⟨h1, (chk_up ok hh h1).2 h2⟩
    · rintro ⟨h1, h2⟩
      rcases hu.all x h1 ((chk_up ok hh h1).1 h2) with e | ⟨e, _⟩
      · exact e
      · exact absurd rfl e)
  exact hp.length_eq.symm
theorem UpTo.length {L : TRows} {n : Nat} (ok : TreeOk L n) {hgt : Int → Nat} {h : Int} {done : List Int} {id : Int} (hu : UpTo L hgt h done id) : done.length ≤ L.length := by
  have := sub_length done (L.map (·.1)) hu.nd (fun k hk => by
    obtain ⟨p, hp⟩ := (hasB_true ok.up).1 (hu.has k hk).1
    exact List.mem_map.2 ⟨_, hp, rfl⟩)
  rwa [List.length_map] at this
end Go.Proofs.YtinjbonodlkafaaDoor

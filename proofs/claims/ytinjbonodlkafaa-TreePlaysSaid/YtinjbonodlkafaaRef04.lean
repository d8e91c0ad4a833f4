/- The document's answer for layer 4 (ids): New, Lives, Give, Take, Same. -/
import Derived.Test.YtinjbonodlkafaaTail
import Derived.Test.YtinjbonodlkafaaIdsAll
set_option linter.unusedVariables false
set_option linter.unusedSimpArgs false
namespace Go.Proofs.Ytinjbonodlkafaa
open Go Go.RowKit

theorem SlR.lit1 {k : IntKind} {F : Nat → Prop} {w : World} {g : Nat} {x : Int} {T : TypeId} (h : w.heap[g]? = some (.cells #[.int k x] T (0, 0))) (hx : InK k x) (hF : ¬ F g) : SlR (intRp k) F w (some ⟨g, 0, none⟩) 1 [x] :=
  ⟨Nat.le_refl _, by unfold maxLen; omega, fun q => (by cases q), fun _ => ⟨g, 0, rfl, hF, heap_lt h, fun i hi => by
    have hi0 : i = 0 := by simpa using hi
    subst hi0
    refine ⟨[.int k x], fun j u hj => ?_, rfl, hx⟩
    have hj0 : j = 0 := by have := (List.getElem?_eq_some_iff.1 hj).1; simpa using this
    subst hj0
    simp at hj
    subst hj
    exact cellOf h 0 rfl⟩⟩

theorem results_cell2 {fn : Func} {c u : Tmp} {T : TypeId} (h : fn.results = #[.cell c T, .tmp u]) (tmps : Array Value) (P : Program) (w : World) {a : Addr} {v : Value} (hc : tmps.getD c undef = .pointer (some a)) (hl : (loadVar T a).run P w = .ok v w) :
    (results fn tmps).run P w = .ok (.tuple #[v, tmps.getD u undef]) w := by
  have hc' : tmps[c]?.getD undef = .pointer (some a) := by rw [← Array.getD_eq_getD_getElem?]; exact hc
  simp [results, h, hc', asAddr, hl]
theorem results_cell1 {fn : Func} {c : Tmp} {T : TypeId} (h : fn.results = #[.cell c T]) (tmps : Array Value) (P : Program) (w : World) {a : Addr} {v : Value} (hc : tmps.getD c undef = .pointer (some a)) (hl : (loadVar T a).run P w = .ok v w) :
    (results fn tmps).run P w = .ok v w := by
  have hc' : tmps[c]?.getD undef = .pointer (some a) := by rw [← Array.getD_eq_getD_getElem?]; exact hc
  simp [results, h, hc', asAddr, hl]
theorem results_cell3 {fn : Func} {c u x : Tmp} {T : TypeId} (h : fn.results = #[.cell c T, .tmp u, .tmp x]) (tmps : Array Value) (P : Program) (w : World) {a : Addr} {v : Value} (hc : tmps.getD c undef = .pointer (some a)) (hl : (loadVar T a).run P w = .ok v w) :
    (results fn tmps).run P w = .ok (.tuple #[v, tmps.getD u undef, tmps.getD x undef]) w := by
  have hc' : tmps[c]?.getD undef = .pointer (some a) := by rw [← Array.getD_eq_getD_getElem?]; exact hc
  simp [results, h, hc', asAddr, hl]
theorem three_set {w : World} {B : Nat} {v0 v1 v2 u0 u1 u2 : Value} {T : TypeId} (k0 : w.heap[B]? = some (.cells #[v0, v1, v2] T (0, 0))) : (((w.setCell ⟨B, 0, none⟩ u0).setCell ⟨B, 1, none⟩ u1).setCell ⟨B, 2, none⟩ u2).heap[B]? = some (.cells #[u0, u1, u2] T (0, 0)) :=
  heap_set (heap_set (heap_set (i := 0) k0 u0) (i := 1) u1) (i := 2) u2

theorem ref04_New (w : World) (most : Int) (hm : I64 most) :
    Calls Try.prog 13 #[.int .i64 most] w fun e w' => e = .returned (.agg #[.slice none 0 0, .int .i64 0, .int .i64 (max most 0)]) ∧ Ch No w w' := by
  by_cases h0 : most < 0
  · have e0 : max most 0 = 0 := by omega
    have b1 : decide (most < 0) = true := decide_eq_true h0
    rw [e0]
    clear h0 e0
    go_enter Try.func13, Try.ntmps13
    go_wp2_with fail
    refine bodyPost_ret (results_cell1 (v := .agg #[.slice none 0 0, .int .i64 0, .int .i64 0]) rfl _ _ _ (by rfl) (by go_simp)) rfl ?_
    exact ⟨rfl, (Ch.refl _ _).alloc _⟩
  · have e0 : max most 0 = most := by omega
    have b1 : decide (most < 0) = false := decide_eq_false h0
    rw [e0]
    clear h0 e0
    go_enter Try.func13, Try.ntmps13
    go_wp2_with fail
    refine bodyPost_ret (results_cell1 (v := .agg #[.slice none 0 0, .int .i64 0, .int .i64 most]) rfl _ _ _ (by rfl) (by go_simp)) rfl ?_
    exact ⟨rfl, (Ch.refl _ _).alloc _⟩

theorem ref04_Lives (F : Nat → Prop) (w : World) (q : Option Addr) (c : Nat) (L : List Int) (last most k : Int) (h : SlR (intRp .i64) F w q c L) (hk : I64 k) (hL : L.length ≤ 100000) :
    Calls Try.prog 22 #[.agg #[.slice q L.length c, .int .i64 last, .int .i64 most], .int .i64 k] w fun e w' => e = .returned (.bool (decide (k ∈ L))) ∧ Ch No w w' := by
  obtain ⟨w1, hw1⟩ : ∃ z, z = w.alloc (.cells #[.slice q L.length c, .int .i64 last, .int .i64 most] 27) := ⟨_, rfl⟩
  have hal : Ch No w w1 := by rw [hw1]; exact (Ch.refl _ _).alloc _
  have hda : w1.heap[w.heap.size]? = some (.cells #[.slice q L.length c, .int .i64 last, .int .i64 most] 27 (0, 0)) := by rw [hw1]; exact heap_alloc_new _ _
  have y0 := cellOf hda 0 rfl
  have h1 := h.ch0 hal
  have HW := Lib.hid hw1
  clear hw1
  go_enter Try.func22, Try.ntmps22
  go_wp2_with fail
  rw [← HW.out]
  go_loopw [5] (fun v wr => ∃ i : Nat, i ≤ L.length ∧ v = .int .i64 i ∧ k ∉ L.take i ∧ w1 = wr) (fun v _ => L.length - (intOf v).toNat)
  case atStart => exact ⟨0, by omega, rfl, by simp, rfl⟩
  case round =>
    obtain ⟨i, hi, rfl, hn, rfl⟩ := hrel
    have HN := Lib.hid hn
    clear hn
    by_cases hlt : i < L.length
    · obtain ⟨bq, off, rfl, _, _, d0, _⟩ := h1.int_at i hlt
      have htk : L.take (i + 1) = L.take i ++ [L[i]] := List.take_succ_eq_append_getElem hlt
      have hmem : L[i] ∈ L := List.getElem_mem hlt
      obtain ⟨x, hx⟩ : ∃ z, z = L[i] := ⟨_, rfl⟩
      rw [← hx] at d0 htk hmem
      have HT := Lib.hid htk
      clear htk hx
      by_cases hxk : x = k
      · have b1 : (x == k) = true := by simp [hxk]
        have hy : decide (k ∈ L) = true := decide_eq_true (hxk ▸ hmem)
        have HY := Lib.hid hy
        clear hxk hy hmem
        go_wp2_with fail
        go_ret
        exact ⟨by rw [HY.out]; rfl, hal⟩
      · have b1 : (x == k) = false := by simp [hxk]
        have HX := Lib.hid hxk
        clear hxk hmem
        go_wp2_with fail
        go_roundw
        case rel => exact ⟨i + 1, by omega, by go_num, fun q => by
          rw [HT.out] at q
          rcases List.mem_append.1 q with q | q
          · exact HN.out q
          · exact HX.out (List.mem_singleton.1 q).symm, trivial⟩
        case measure => exact meas_lt (by omega)
    · obtain rfl : i = L.length := by omega
      have hy : decide (k ∈ L) = false := decide_eq_false (by have := HN.out; rwa [List.take_length] at this)
      have HY := Lib.hid hy
      clear hy
      go_wp2_with fail
      go_ret
      exact ⟨by rw [HY.out]; rfl, hal⟩

theorem ref04_Give_no (w : World) (q : Option Addr) (c n : Nat) (last most : Int) (hg : most ≤ n) :
    Calls Try.prog 15 #[.agg #[.slice q n c, .int .i64 last, .int .i64 most]] w fun e w' => e = .returned (.tuple #[.agg #[.slice q n c, .int .i64 last, .int .i64 most], .int .i64 0, .int .i64 3]) ∧ Ch No w w' := by
  have b1 : decide ((n : Int) ≥ most) = true := decide_eq_true hg
  clear hg
  go_enter Try.func15, Try.ntmps15
  go_wp2_with fail
  refine bodyPost_ret (results_cell3 (v := .agg #[.slice q n c, .int .i64 last, .int .i64 most]) rfl _ _ _ (by rfl) (by go_simp)) rfl ?_
  exact ⟨rfl, ((Ch.refl _ _).alloc _).alloc _⟩

set_option maxRecDepth 100000 in
theorem ref04_Take (F : Nat → Prop) (w : World) (q : Option Addr) (c : Nat) (L : List Int) (last most k : Int) (h : SlR (intRp .i64) F w q c L) (hk : I64 k) (hL : L.length ≤ 100000) (hF : ∀ k, F k → k < w.heap.size) :
    Calls Try.prog 17 #[.agg #[.slice q L.length c, .int .i64 last, .int .i64 most], .int .i64 k] w fun e w' => ∃ q' c', e = .returned (.tuple #[.agg #[.slice q' (L.filter (· != k)).length c', .int .i64 last, .int .i64 most], .int .i64 (if k ∈ L then 0 else 2)]) ∧ SlR (intRp .i64) F w' q' c' (L.filter (· != k)) ∧ Ch No w w' := by
  obtain ⟨w1, hw1⟩ : ∃ z, z = (w.alloc (.cells #[.slice q L.length c, .int .i64 last, .int .i64 most] 27)).alloc (.cells #[.slice none 0 0, .int .i64 0, .int .i64 0] 27) := ⟨_, rfl⟩
  have hal : Ch No w w1 := by rw [hw1]; exact ((Ch.refl _ _).alloc _).alloc _
  have hd1 : w1.heap[w.heap.size]? = some (.cells #[.slice q L.length c, .int .i64 last, .int .i64 most] 27 (0, 0)) := by rw [hw1]; exact heap_al (heap_alloc_new _ _) _
  have hz1 : w1.heap[w.heap.size + 1]? = some (.cells #[.slice none 0 0, .int .i64 0, .int .i64 0] 27 (0, 0)) := by
    rw [hw1]
    have := heap_alloc_new (w.alloc (.cells #[.slice q L.length c, .int .i64 last, .int .i64 most] 27)) (.cells #[.slice none 0 0, .int .i64 0, .int .i64 0] 27)
    rw [World.size_alloc] at this
    exact this
  have hs1 : w1.heap.size = w.heap.size + 2 := by rw [hw1]; simp
  have hls := ref04_Lives F w1 q c L last most k (h.ch0 hal) hk hL
  have HW := Lib.hid hw1
  have HS := Lib.hid hs1
  have hcL : ∀ wx vs0 vs1 vs2, Ch (One (w.heap.size + 1)) wx (((wx.setCell ⟨w.heap.size + 1, 0, none⟩ vs0).setCell ⟨w.heap.size + 1, 1, none⟩ vs1).setCell ⟨w.heap.size + 1, 2, none⟩ vs2) := fun wx vs0 vs1 vs2 => Ch.setIn (F := One (w.heap.size + 1)) (Ch.setIn (F := One (w.heap.size + 1)) (Ch.setIn (F := One (w.heap.size + 1)) (Ch.refl _ wx) (p := ⟨w.heap.size + 1, 0, none⟩) rfl vs0) (p := ⟨w.heap.size + 1, 1, none⟩) rfl vs1) (p := ⟨w.heap.size + 1, 2, none⟩) rfl vs2
  clear hw1 hs1
  by_cases hm : k ∈ L
  · rw [decide_eq_true hm] at hls
    rw [if_pos hm]
    have HM := Lib.hid hm
    clear hm
    go_enter Try.func17, Try.ntmps17
    go_wp2_with fail
    rw [← HW.out]
    with_reducible refine hls.mono ?_
    rintro e w2 ⟨rfl, hc2⟩
    have hs2 := hc2.size
    have ho2 : OwnR (intRp .i64) w2.heap.size 3 No (w2.alloc (.cells #[] 3)) (.slice (some ⟨w2.heap.size, 0, none⟩) 0 0) [] := OwnR.lit0 (Nat.le_refl _)
    have hal2 : Ch No w2 (w2.alloc (.cells #[] 3)) := (Ch.refl _ _).alloc _
    have hd2 := hc2.heap hd1 (fun q => q)
    have hz2 := hc2.heap hz1 (fun q => q)
    dsimp only
    go_wp2_with fail
    go_loopw [6, 7] (fun v i wr => ∃ j : Nat, j ≤ L.length ∧ i = .int .i64 j ∧ OwnR (intRp .i64) w2.heap.size 3 No wr v ((L.take j).filter (· != k)) ∧ Ch No w2 wr) (fun _ i _ => L.length - (intOf i).toNat)
    case atStart => exact ⟨0, by omega, rfl, by simpa using ho2, hal2⟩
    case round =>
      obtain ⟨j, hj, rfl, ho, hc⟩ := hrel
      have hdr := hc.heap hd2 (fun q => q)
      have hzr := hc.heap hz2 (fun q => q)
      have y0 := cellOf hdr 0 rfl
      by_cases hlt : j < L.length
      · obtain ⟨bq, off, rfl, _, _, d0, ix⟩ := (((h.ch0 hal).ch0 hc2).ch0 hc).int_at j hlt
        have htk : (L.take (j + 1)).filter (· != k) = (L.take j).filter (· != k) ++ (if L[j] != k then [L[j]] else []) := by
          rw [List.take_succ_eq_append_getElem hlt, List.filter_append]
          congr 1
          simp only [List.filter_cons, List.filter_nil]
        have hle : ((L.take j).filter (· != k)).length ≤ 100000 := Nat.le_trans (List.length_filter_le _ _) (by rw [List.length_take]; omega)
        obtain ⟨x, hx⟩ : ∃ z, z = L[j] := ⟨_, rfl⟩
        rw [← hx] at d0 ix htk
        obtain ⟨M, hM⟩ : ∃ z, z = (L.take j).filter (· != k) := ⟨_, rfl⟩
        rw [← hM] at ho htk hle
        have hsz := hc.size
        by_cases hxk : x = k
        · have b1 : (x != k) = false := by simp [hxk]
          rw [if_neg (by simp [hxk]), List.append_nil] at htk
          have HT := Lib.hid htk
          clear hxk htk hM hx
          go_wp2_with fail
          go_roundw
          case rel => exact ⟨j + 1, by omega, by go_num, by rw [HT.out]; exact ho, hc⟩
          case measure => exact meas_lt (by omega)
        · have b1 : (x != k) = true := by simp [hxk]
          rw [if_pos (by simp [hxk])] at htk
          have HT := Lib.hid htk
          clear hxk htk hM hx
          go_wp2_with (at_builtin; go_loud (refine wpL_push rfl _ _ _ rfl w2.heap.size 3 (.int .i64 0) 1 8 Try.underlying22 infoInt rfl (by decide) (intRp .i64) rfl No u6 M rfl ho [.int .i64 x] _ x 1 (by go_simp) ⟨rfl, ix⟩ (fun _ q => q.elim) (by omega) (by omega) hsz ?_); intro v9 w9 ho9 hg9 hk9)
          go_roundw
          case rel => exact ⟨j + 1, by omega, by go_num, by rw [HT.out]; exact ho9, hg9 _ _ (Nat.le_refl _) hc⟩
          case measure => exact meas_lt (by omega)
      · obtain rfl : j = L.length := by omega
        rw [List.take_length] at ho
        obtain ⟨A7, C7, hv7, hs7⟩ := (OwnR.ofInts (F := fun z => F z ∨ z = w.heap.size ∨ z = w.heap.size + 1) ho.ints.1 rfl ho.ints.2).sl (fun z e => by
          have := HS.out
          rcases e with e | e | e
          · have := hF z e; omega
          · omega
          · omega)
        obtain ⟨M, hM⟩ : ∃ z, z = L.filter (· != k) := ⟨_, rfl⟩
        rw [← hM] at hv7 hs7
        subst hv7
        have hne : w.heap.size + 1 ≠ w.heap.size := by omega
        have fx0 := freeOf hdr 0
        have hds := heap_set (i := 0) hdr (.slice A7 M.length C7)
        have hzs := heap_set_ne hzr hne (i := 0) (.slice A7 M.length C7)
        have x0 := cellOf hds 0 rfl
        have x1 : (wr.setCell ⟨w.heap.size, 0, none⟩ (.slice A7 M.length C7)).cell? ⟨w.heap.size, 1, none⟩ = some (.int .i64 last) := cellOf hds 1 rfl
        have x2 : (wr.setCell ⟨w.heap.size, 0, none⟩ (.slice A7 M.length C7)).cell? ⟨w.heap.size, 2, none⟩ = some (.int .i64 most) := cellOf hds 2 rfl
        have z0 := cellOf hzs 0 rfl
        have z1 := cellOf hzs 1 rfl
        have z2 := cellOf hzs 2 rfl
        have f0 := freeOf hzs 0
        have f1 := freeOf hzs 1
        have f2 := freeOf hzs 2
        have m := three_set (u0 := .slice A7 M.length C7) (u1 := .int .i64 last) (u2 := .int .i64 most) hzs
        have e0 := cellOf m 0 rfl
        have e1 := cellOf m 1 rfl
        have e2 := cellOf m 2 rfl
        have hcs : Ch (One w.heap.size) wr (wr.setCell ⟨w.heap.size, 0, none⟩ (.slice A7 M.length C7)) := Ch.setIn (F := One w.heap.size) (Ch.refl _ _) (p := ⟨w.heap.size, 0, none⟩) rfl _
        have HMM := Lib.hid hM
        clear hM
        go_wp2_with fail
        have hcZ := hcL (wr.setCell ⟨w.heap.size, 0, none⟩ (.slice A7 M.length C7)) (.slice A7 M.length C7) (.int .i64 last) (.int .i64 most)
        refine bodyPost_ret (results_cell2 (v := .agg #[.slice A7 M.length C7, .int .i64 last, .int .i64 most]) rfl _ _ _ (by rfl) (by go_simp)) rfl ?_
        have hM := HMM.out
        subst hM
        refine ⟨A7, C7, rfl, ((hs7.ch hcs (fun z e => .inr (.inl e))).ch hcZ (fun z e => .inr (.inr e))).more (fun z e => .inl (.inl e)), (((hal.trans hc2).trans hc).andThen hcs (fun z e => .inr (by have : z = w.heap.size := e; omega))).andThen hcZ (fun z e => .inr (by have : z = w.heap.size + 1 := e; omega))⟩
  · rw [decide_eq_false hm] at hls
    rw [if_neg hm]
    have hfl : L.filter (· != k) = L := List.filter_eq_self.2 (fun x hx => by simp only [bne_iff_ne, ne_eq]; rintro rfl; exact hm hx)
    rw [hfl]
    clear hm hfl
    go_enter Try.func17, Try.ntmps17
    go_wp2_with fail
    rw [← HW.out]
    with_reducible refine hls.mono ?_
    rintro e w2 ⟨rfl, hc2⟩
    have hd2 := hc2.heap hd1 (fun q => q)
    have hz2 := hc2.heap hz1 (fun q => q)
    have x0 := cellOf hd2 0 rfl
    have x1 := cellOf hd2 1 rfl
    have x2 := cellOf hd2 2 rfl
    have z0 := cellOf hz2 0 rfl
    have z1 := cellOf hz2 1 rfl
    have z2 := cellOf hz2 2 rfl
    have f0 := freeOf hz2 0
    have f1 := freeOf hz2 1
    have f2 := freeOf hz2 2
    have m := three_set (u0 := .slice q L.length c) (u1 := .int .i64 last) (u2 := .int .i64 most) hz2
    have e0 := cellOf m 0 rfl
    have e1 := cellOf m 1 rfl
    have e2 := cellOf m 2 rfl
    dsimp only
    go_wp2_with fail
    have hcZ := hcL w2 (.slice q L.length c) (.int .i64 last) (.int .i64 most)
    refine bodyPost_ret (results_cell2 (v := .agg #[.slice q L.length c, .int .i64 last, .int .i64 most]) rfl _ _ _ (by rfl) (by go_simp)) rfl ?_
    have hch : Ch No w _ := (hal.trans hc2).andThen hcZ (fun z e => .inr (by have : z = w.heap.size + 1 := e; omega))
    exact ⟨q, c, rfl, h.ch0 hch, hch⟩

theorem ref04_Same (F G : Nat → Prop) (w : World) (a a' : Option Addr) (c c' : Nat) (l l' : List Int) (h : SlR (intRp .i64) F w a c l) (h' : SlR (intRp .i64) G w a' c' l') (hl : l.length ≤ 100000) (hl' : l'.length ≤ 100000) :
    Calls Try.prog 18 #[.slice a l.length c, .slice a' l'.length c'] w fun e w' => e = .returned (.bool (decide (l = l'))) ∧ Ch No w w' := by
  by_cases hn : l.length = l'.length
  · have hn' : ((l.length : Int) != (l'.length : Int)) = false := by simp; omega
    have HN := Lib.hid hn; clear hn
    go_enter Try.func18, Try.ntmps18
    go_wp2_with fail
    go_loopw [5] (fun i wr => ∃ k : Nat, k ≤ l.length ∧ i = .int .i64 k ∧ l.take k = l'.take k ∧ Ch No w wr) (fun i _ => l.length - (intOf i).toNat)
    case atStart => exact ⟨0, by omega, rfl, rfl, Ch.refl _ _⟩
    case round =>
      obtain ⟨k, hk, rfl, ht, hc⟩ := hrel
      have HT := Lib.hid ht; clear ht
      by_cases hlt : k < l.length
      · obtain ⟨b, off, rfl, _, _, c1, _⟩ := (h.ch0 hc).int_at k hlt
        obtain ⟨b', off', rfl, _, _, c3, _⟩ := (h'.ch0 hc).int_at k (by have := HN.out; omega)
        obtain ⟨x, hx⟩ : ∃ x, x = l[k] := ⟨_, rfl⟩
        obtain ⟨y, hy⟩ : ∃ y, y = l'[k]'(by have := HN.out; omega) := ⟨_, rfl⟩
        rw [← hx] at c1
        rw [← hy] at c3
        have HX := Lib.hid hx; have HY := Lib.hid hy; clear hx hy
        have hk2 : (k : Int) < (l'.length : Int) := by have := HN.out; omega
        by_cases he : x = y
        · have e1 : (x == y) = true := by simp [he]
          have HE := Lib.hid he; clear he
          go_wp2_with fail
          go_quiet (fail)
          go_wp2_with fail
          go_roundw
          case rel => exact ⟨k + 1, by omega, by go_num, take_eq_succ HT.out hlt (by have := HN.out; omega) (by rw [← HX.out, ← HY.out, HE.out]), hc.drewN _⟩
          case measure => exact meas_lt (by omega)
        · have HE := Lib.hid he
          have e1 : (x == y) = false := by simp [he]
          clear he
          go_wp2_with fail
          go_quiet (fail)
          go_wp2_with fail
          go_ret
          have : l ≠ l' := take_ne_of hlt (by have := HN.out; omega) (by rw [← HX.out, ← HY.out]; exact HE.out)
          exact ⟨by simp [this], hc.drewN _⟩
      · obtain rfl : k = l.length := by omega
        go_wp2_with fail
        go_ret
        have e : l = l' := by have := HT.out; rw [List.take_length, HN.out, List.take_length] at this; exact this
        exact ⟨by rw [decide_eq_true e]; rfl, hc⟩
  · have hn' : ((l.length : Int) != (l'.length : Int)) = true := by simp; omega
    have HN := Lib.hid hn; clear hn
    go_enter Try.func18, Try.ntmps18
    go_wp2_with fail
    go_ret
    exact ⟨by rw [decide_eq_false (fun e => HN.out (by rw [e]))]; rfl, Ch.refl _ _⟩

set_option maxRecDepth 100000 in
theorem ref04_Give (F : Nat → Prop) (w : World) (q : Option Addr) (c : Nat) (L : List Int) (last most : Int) (h : SlR (intRp .i64) F w q c L) (hL : L.length ≤ 100000) (hg : (L.length : Int) < most) (hla0 : 0 ≤ last ∧ last ≤ 4611686018427387904) (hF : ∀ k, F k → k < w.heap.size) :
    Calls Try.prog 15 #[.agg #[.slice q L.length c, .int .i64 last, .int .i64 most]] w fun e w' => ∃ q' c', e = .returned (.tuple #[.agg #[.slice q' (L.length + 1) c', .int .i64 (last + 1), .int .i64 most], .int .i64 (last + 1), .int .i64 0]) ∧ SlR (intRp .i64) F w' q' c' (L ++ [last + 1]) ∧ Ch No w w' := by
  have b1 : decide ((L.length : Int) ≥ most) = false := decide_eq_false (by omega)
  have e1 : IntKind.i64.wrap (last + 1) = last + 1 := IntWalk.i64_in _ (by omega)
  go_enter Try.func15, Try.ntmps15
  go_wp2_with fail
  obtain ⟨la, hlae⟩ : ∃ z, z = last + 1 := ⟨_, rfl⟩
  have hla : InK .i64 la := show _ ∧ _ from by omega
  rw [← hlae]
  obtain ⟨w4, hw4⟩ : ∃ z, z = (w.alloc (.cells #[.slice q L.length c, .int .i64 la, .int .i64 most] 27)).alloc (.cells #[.slice none 0 0, .int .i64 0, .int .i64 0] 27) := ⟨_, rfl⟩
  rw [← hw4]
  have hal : Ch No w w4 := by rw [hw4]; exact ((Ch.refl _ _).alloc _).alloc _
  have hd4 : w4.heap[w.heap.size]? = some (.cells #[.slice q L.length c, .int .i64 la, .int .i64 most] 27 (0, 0)) := by rw [hw4]; exact heap_al (heap_alloc_new _ _) _
  have hz4 : w4.heap[w.heap.size + 1]? = some (.cells #[.slice none 0 0, .int .i64 0, .int .i64 0] 27 (0, 0)) := by
    rw [hw4]
    have := heap_alloc_new (w.alloc (.cells #[.slice q L.length c, .int .i64 la, .int .i64 most] 27)) (.cells #[.slice none 0 0, .int .i64 0, .int .i64 0] 27)
    rw [World.size_alloc] at this
    exact this
  have hs4 : w4.heap.size = w.heap.size + 2 := by rw [hw4]; simp
  obtain ⟨n0, hn0⟩ : ∃ z, z = w4.heap.size := ⟨_, rfl⟩
  obtain ⟨wd, hwd⟩ : ∃ z, z = w4.drew := ⟨_, rfl⟩
  have hcd : Ch No w4 wd := by rw [hwd]; exact (Ch.refl _ _).drew
  have hsd : wd.heap.size = n0 := by rw [hwd, hn0]; rfl
  have hd4d := hcd.heap hd4 (fun q => q)
  have hz4d := hcd.heap hz4 (fun q => q)
  have hsl : SlR (intRp .i64) (fun k => n0 ≤ k) wd q c L := ((h.ch0 hal).ch0 hcd).more (fun k hk => .inr (by omega))
  have hslF : ∀ W, Ch No wd W → ∀ g, n0 ≤ g → SlR (intRp .i64) (fun k => No k ∨ (Value.slice (some ⟨g, 0, none⟩) 0 0).ownBlock = some k) W q c L := fun W hc g hg => (hsl.ch0 hc).more (fun k hk => hk.elim (fun z => z.elim) (fun z => .inl (by have e : g = k := (by simpa [Value.ownBlock] using z); omega)))
  have KS : ∀ W, Ch No wd W → (fun w' : World => w'.cell? ⟨w.heap.size, 0, none⟩ = some (.slice q L.length c) ∧ w'.cell? ⟨w.heap.size, 1, none⟩ = some (.int .i64 la)) W := fun W hc => ⟨hc.cell (cellOf hd4d 0 rfl) (fun q => q), hc.cell (cellOf hd4d 1 rfl) (fun q => q)⟩
  have hlo : w.heap.size + 2 ≤ n0 ∧ n0 ≤ wd.heap.size ∧ wd.heap.size ≤ n0 := by omega
  have HLA := Lib.hid hlae
  obtain ⟨G, hGd⟩ : ∃ G : Nat → Prop, G = fun k => F k ∨ k = w.heap.size ∨ k = w.heap.size + 1 := ⟨_, rfl⟩
  have hFG : ∀ k, F k → G k := fun k e => by rw [hGd]; exact .inl e
  have hGA : ∀ k, (k = w.heap.size ∨ k = w.heap.size + 1) → G k := fun k e => by rw [hGd]; exact .inr e
  have hGn : ∀ k, G k → k < n0 := fun k e => by
    rw [hGd] at e
    rcases e with e | e | e
    · have := hF k e; omega
    · omega
    · omega
  clear hGd
  clear hw4 hs4 hn0 hsd hlae e1
  refine wp_region_tailH (S := (fun w' : World => w'.cell? ⟨w.heap.size, 0, none⟩ = some (.slice q L.length c) ∧ w'.cell? ⟨w.heap.size, 1, none⟩ = some (.int .i64 la))) 8 (by kernel_rfl) (by decide) (by rw [← hwd]; exact KS _ (Ch.refl _ _)) (fun hHeld => ?_)
  rw [← hwd] at hHeld ⊢
  have HWD := Lib.hid hwd
  clear hwd
  refine wpAnyT_take (i := 1) (v := ?_) (by simp only [List.getElem?_toArray, List.getElem?_cons_zero, List.getElem?_cons_succ]; exact rfl) (by kernel_rfl) (by kernel_rfl) (by kernel_rfl) (by kernel_rfl) (by intro _ _ _ h; exact h) (Or.inl ⟨by rfl, ?_⟩) (by assumption) ?_
  rotate_left
  · intro w hSw
    (try dsimp only at hSw)
    go_simp
    try (with_reducible rfl)
  try simp only [Act.put, List.setIfInBounds_toArray, List.set_cons_zero, List.set_cons_succ]
  refine wpAnyT_take (i := 2) (v := ?_) (by simp only [List.getElem?_toArray, List.getElem?_cons_zero, List.getElem?_cons_succ]; exact rfl) (by kernel_rfl) (by kernel_rfl) (by kernel_rfl) (by kernel_rfl) (by intro _ _ _ h; exact h) (Or.inl ⟨by rfl, ?_⟩) (by assumption) ?_
  rotate_left
  · intro w hSw
    (try dsimp only at hSw)
    go_simp
    try (with_reducible rfl)
  try simp only [Act.put, List.setIfInBounds_toArray, List.set_cons_zero, List.set_cons_succ]
  refine wpAnyT_take (i := 4) (v := ?_) (by simp only [List.getElem?_toArray, List.getElem?_cons_zero, List.getElem?_cons_succ]; exact rfl) (by kernel_rfl) (by kernel_rfl) (by kernel_rfl) (by kernel_rfl) (by intro _ _ _ h; exact h) (Or.inl ⟨by rfl, ?_⟩) (by assumption) ?_
  rotate_left
  · intro w hSw
    (try dsimp only at hSw)
    go_simp
    try (with_reducible rfl)
  try simp only [Act.put, List.setIfInBounds_toArray, List.set_cons_zero, List.set_cons_succ]
  refine wpAnyT_take (i := 5) (v := ?_) (by simp only [List.getElem?_toArray, List.getElem?_cons_zero, List.getElem?_cons_succ]; exact rfl) (by kernel_rfl) (by kernel_rfl) (by kernel_rfl) (by kernel_rfl) (by intro _ _ _ h; exact h) (Or.inl ⟨by rfl, ?_⟩) (by assumption) ?_
  rotate_left
  · intro w hSw
    (try dsimp only at hSw)
    go_simp
    try (with_reducible rfl)
  try simp only [Act.put, List.setIfInBounds_toArray, List.set_cons_zero, List.set_cons_succ]
  refine wpAnyT_ready (rs := [0, 6]) (by kernel_rfl) (by kernel_rfl) ?_
  refine AllReadyT.cons (by simp only [List.getElem?_toArray, List.getElem?_cons_zero, List.getElem?_cons_succ]; exact rfl) (fun K hK => ?_) ?_
  · go_simp
    obtain ⟨w1_, hw_⟩ : ∃ z, z = wd.alloc (.cells #[] 3) := ⟨_, rfl⟩
    obtain ⟨g0, hg_⟩ : ∃ z, z = wd.heap.size := ⟨_, rfl⟩
    have hst_ : Ch No wd w1_ := by rw [hw_]; exact (Ch.refl _ _).alloc _
    have hch : Ch No wd w1_ := (Ch.refl No wd).trans hst_
    have hgb0 : wd.heap.size ≤ g0 ∧ g0 < w1_.heap.size := by rw [hw_, hg_]; simp
    have hb0n : w1_.heap[g0]? = some (.cells #[] 3 (0, 0)) := by rw [hw_, hg_]; exact heap_alloc_new _ _
    have ho0 : OwnR (intRp .i64) n0 3 No w1_ (.slice (some ⟨g0, 0, none⟩) 0 0) [] := by rw [hw_, hg_]; exact OwnR.lit0 (by have := (Ch.refl No wd).size; omega)
    rw [← hw_, ← hg_]
    refine hK.out _ _ (KS _ hch) (fun hHeld => ?_)
    clear hK K hw_ hg_
    try simp only [Act.put, List.setIfInBounds_toArray, List.set_cons_zero, List.set_cons_succ]
    refine wpAnyT_ready (rs := [3, 6]) (by kernel_rfl) (by kernel_rfl) ?_
    refine AllReadyT.cons (by simp only [List.getElem?_toArray, List.getElem?_cons_zero, List.getElem?_cons_succ]; exact rfl) (fun K hK => ?_) ?_
    · have hsl_ := hslF w1_ hch g0 (by have := (ho0.blk g0 rfl).1; omega)
      refine step_append (by rfl) _ _ _ (by rfl) n0 3 (.int .i64 0) 1 8 Try.underlying22 infoInt rfl (by decide) (intRp .i64) rfl No (.slice (some ⟨g0, 0, none⟩) 0 0) [] (by rfl) ho0 _ _ L (by rfl) hsl_ (by simp; omega) (by simp; omega) (by have := hch.size; omega) ?_
      intro v3 w2_ ho3 hst_ hk3 hrk_
      rw [List.nil_append] at ho3
      have hch : Ch No wd w2_ := hch.andThen hst_ (fun k e => .inr (by have := (ho0.blk k e).1; omega))
      refine hK.out _ _ (KS _ hch) (fun hHeld => ?_)
      clear hK K hst_ hrk_
      try simp only [Act.put, List.setIfInBounds_toArray, List.set_cons_zero, List.set_cons_succ]
      refine wpAnyT_ready (rs := [6]) (by kernel_rfl) (by kernel_rfl) ?_
      refine AllReadyT.cons (by simp only [List.getElem?_toArray, List.getElem?_cons_zero, List.getElem?_cons_succ]; exact rfl) (fun K hK => ?_) AllReadyT.nil
      have ho3o := ho3
      go_simp
      obtain ⟨w3_, hw_⟩ : ∃ z, z = w2_.alloc (.cells #[.int .i64 la] 3) := ⟨_, rfl⟩
      obtain ⟨g6, hg_⟩ : ∃ z, z = w2_.heap.size := ⟨_, rfl⟩
      have hst_ : Ch No w2_ w3_ := by rw [hw_]; exact (Ch.refl _ _).alloc _
      have hch : Ch No wd w3_ := hch.trans hst_
      have hgb6 : w2_.heap.size ≤ g6 ∧ g6 < w3_.heap.size := by rw [hw_, hg_]; simp
      have hb6n : w3_.heap[g6]? = some (.cells #[.int .i64 la] 3 (0, 0)) := by rw [hw_, hg_]; exact heap_alloc_new _ _
      have ho3 := ho3.ch0 hst_
      have hb6 := hb6n
      have hd36 : ∀ k, v3.ownBlock = some k → k ≠ g6 := fun k e => by have := (ho3.blk k e).2; have := (ho3o.blk k e).2; omega
      rw [← hw_, ← hg_]
      refine hK.out _ _ (KS _ hch) (fun hHeld => ?_)
      clear hK K hw_ hg_
      try simp only [Act.put, List.setIfInBounds_toArray, List.set_cons_zero, List.set_cons_succ]
      refine wpAnyT_ready (rs := [7]) (by kernel_rfl) (by kernel_rfl) ?_
      refine AllReadyT.cons (by simp only [List.getElem?_toArray, List.getElem?_cons_zero, List.getElem?_cons_succ]; exact rfl) (fun K hK => ?_) AllReadyT.nil
      have hsl6_ : SlR (intRp .i64) (fun k => No k ∨ v3.ownBlock = some k) w3_ (some ⟨g6, 0, none⟩) 1 [la] := SlR.lit1 hb6 hla (fun q => q.elim (fun z => z) (fun z => hd36 g6 z rfl))
      refine step_append (by rfl) _ _ _ (by rfl) n0 3 (.int .i64 0) 1 8 Try.underlying22 infoInt rfl (by decide) (intRp .i64) rfl No v3 L (by rfl) ho3 (some ⟨g6, 0, none⟩) 1 [la] (by rfl) hsl6_ (by simp; omega) (by simp; omega) (by have := hch.size; omega) ?_
      intro v7 w4_ ho7 hst_ hk7 hrk_
      have hch : Ch No wd w4_ := hch.andThen hst_ (fun k e => .inr (by have := (ho3.blk k e).1; omega))
      refine hK.out _ _ (KS _ hch) (fun hHeld => ?_)
      clear hK K hst_ hrk_
      try simp only [Act.put, List.setIfInBounds_toArray, List.set_cons_zero, List.set_cons_succ]
      refine wpAnyT_tail (by kernel_rfl) ?_
      clear hHeld
      have hw7 : ∃ z, z = w4_ := ⟨_, rfl⟩
      obtain ⟨w7, hw7⟩ := hw7
      rw [← hw7] at hch ho7 ⊢
      clear hw7
      obtain ⟨A7, C7, hv7, hs7⟩ := (OwnR.ofInts (F := G) ho7.ints.1 rfl ho7.ints.2).sl hGn
      rw [List.length_append, List.length_singleton] at hv7
      subst hv7
      have hd7 := hch.heap hd4d (fun q => q)
      have hz7 := hch.heap hz4d (fun q => q)
      have x0 := cellOf hd7 0 rfl
      have fx0 := freeOf hd7 0
      simp only [List.drop_succ_cons, List.drop_zero]
      go_wp2_with fail
      obtain ⟨ws, hws⟩ : ∃ z, z = w7.setCell ⟨w.heap.size, 0, none⟩ (.slice A7 (L.length + 1) C7) := ⟨_, rfl⟩
      have hcs : Ch (One w.heap.size) w7 ws := by rw [hws]; exact Ch.setIn (F := One w.heap.size) (Ch.refl _ _) (p := ⟨w.heap.size, 0, none⟩) rfl _
      have hds : ws.heap[w.heap.size]? = some (.cells #[.slice A7 (L.length + 1) C7, .int .i64 la, .int .i64 most] 27 (0, 0)) := by rw [hws]; exact heap_set hd7 _
      have hzs : ws.heap[w.heap.size + 1]? = some (.cells #[.slice none 0 0, .int .i64 0, .int .i64 0] 27 (0, 0)) := by rw [hws]; exact heap_set_ne hz7 (by omega) _
      rw [← hws]
      have x0 := cellOf hds 0 rfl
      have x1 := cellOf hds 1 rfl
      have x2 := cellOf hds 2 rfl
      clear hws fx0
      obtain ⟨wt, hwd⟩ : ∃ z, z = ws.drew := ⟨_, rfl⟩
      have hct : Ch No ws wt := by rw [hwd]; exact (Ch.refl _ _).drew
      have hzt := hct.heap hzs (fun q => q)
      have hdt := hct.heap hds (fun q => q)
      have y0 := cellOf hzt 0 rfl
      have y1 := cellOf hzt 1 rfl
      have y2 := cellOf hzt 2 rfl
      have f0 := freeOf hzt 0
      have f1 := freeOf hzt 1
      have f2 := freeOf hzt 2
      have m := three_set (u0 := .slice A7 (L.length + 1) C7) (u1 := .int .i64 la) (u2 := .int .i64 most) hzt
      have e0 := cellOf m 0 rfl
      have e1 := cellOf m 1 rfl
      have e2 := cellOf m 2 rfl
      have hcZ : Ch (One (w.heap.size + 1)) wt (((wt.setCell ⟨w.heap.size + 1, 0, none⟩ (.slice A7 (L.length + 1) C7)).setCell ⟨w.heap.size + 1, 1, none⟩ (.int .i64 la)).setCell ⟨w.heap.size + 1, 2, none⟩ (.int .i64 most)) := Ch.setIn (F := One (w.heap.size + 1)) (Ch.setIn (F := One (w.heap.size + 1)) (Ch.setIn (F := One (w.heap.size + 1)) (Ch.refl _ wt) (p := ⟨w.heap.size + 1, 0, none⟩) rfl (.slice A7 (L.length + 1) C7)) (p := ⟨w.heap.size + 1, 1, none⟩) rfl (.int .i64 la)) (p := ⟨w.heap.size + 1, 2, none⟩) rfl (.int .i64 most)
      have hnz : ¬ One (w.heap.size + 1) w.heap.size := fun e => by have : w.heap.size = w.heap.size + 1 := e; omega
      have KS5 : ∀ W, Ch (One (w.heap.size + 1)) wt W → (fun w' : World => w'.cell? ⟨w.heap.size, 0, none⟩ = some (.slice A7 (L.length + 1) C7) ∧ w'.cell? ⟨w.heap.size, 1, none⟩ = some (.int .i64 la) ∧ w'.cell? ⟨w.heap.size, 2, none⟩ = some (.int .i64 most)) W := fun W hc => ⟨hc.cell (cellOf hdt 0 rfl) hnz, hc.cell (cellOf hdt 1 rfl) hnz, hc.cell (cellOf hdt 2 rfl) hnz⟩
      clear x0 x1 x2
      refine wp_region_tailH (S := (fun w' : World => w'.cell? ⟨w.heap.size, 0, none⟩ = some (.slice A7 (L.length + 1) C7) ∧ w'.cell? ⟨w.heap.size, 1, none⟩ = some (.int .i64 la) ∧ w'.cell? ⟨w.heap.size, 2, none⟩ = some (.int .i64 most))) 4 (by kernel_rfl) (by decide) (by rw [← hwd]; exact KS5 _ (Ch.refl _ _)) (fun hHeld => ?_)
      rw [← hwd] at hHeld ⊢
      have HWD := Lib.hid hwd
      clear hwd
      refine wpAnyT_take (i := 0) (v := ?_) (by simp only [List.getElem?_toArray, List.getElem?_cons_zero, List.getElem?_cons_succ]; exact rfl) (by kernel_rfl) (by kernel_rfl) (by kernel_rfl) (by kernel_rfl) (by intro _ _ _ h; exact h) (Or.inl ⟨by rfl, ?_⟩) (by assumption) ?_
      rotate_left
      · intro w hSw
        (try dsimp only at hSw)
        go_simp
        try (with_reducible rfl)
      try simp only [Act.put, List.setIfInBounds_toArray, List.set_cons_zero, List.set_cons_succ]
      refine wpAnyT_take (i := 1) (v := ?_) (by simp only [List.getElem?_toArray, List.getElem?_cons_zero, List.getElem?_cons_succ]; exact rfl) (by kernel_rfl) (by kernel_rfl) (by kernel_rfl) (by kernel_rfl) (by intro _ _ _ h; exact h) (Or.inl ⟨by rfl, ?_⟩) (by assumption) ?_
      rotate_left
      · intro w hSw
        (try dsimp only at hSw)
        go_simp
        try (with_reducible rfl)
      try simp only [Act.put, List.setIfInBounds_toArray, List.set_cons_zero, List.set_cons_succ]
      refine wpAnyT_take (i := 2) (v := ?_) (by simp only [List.getElem?_toArray, List.getElem?_cons_zero, List.getElem?_cons_succ]; exact rfl) (by kernel_rfl) (by kernel_rfl) (by kernel_rfl) (by kernel_rfl) (by intro _ _ _ h; exact h) (Or.inl ⟨by rfl, ?_⟩) (by assumption) ?_
      rotate_left
      · intro w hSw
        (try dsimp only at hSw)
        go_simp
        try (with_reducible rfl)
      try simp only [Act.put, List.setIfInBounds_toArray, List.set_cons_zero, List.set_cons_succ]
      refine wpAnyT_ready (rs := [3]) (by kernel_rfl) (by kernel_rfl) ?_
      refine AllReadyT.cons (by simp only [List.getElem?_toArray, List.getElem?_cons_zero, List.getElem?_cons_succ]; exact rfl) (fun K hK => ?_) AllReadyT.nil
      go_simp
      refine hK.out _ _ (KS5 _ hcZ) (fun hHeld => ?_)
      clear hK K
      try simp only [Act.put, List.setIfInBounds_toArray, List.set_cons_zero, List.set_cons_succ]
      refine wpAnyT_tail (by kernel_rfl) ?_
      simp only [List.drop_succ_cons, List.drop_zero]
      go_wp2_with fail
      refine bodyPost_ret (results_cell3 (v := .agg #[.slice A7 (L.length + 1) C7, .int .i64 la, .int .i64 most]) rfl _ _ _ (by rfl) (by go_simp)) rfl ?_
      have hcG : Ch G w7 _ := ((hcs.mono (fun k e => hGA k (.inl e))).then0 hct).trans (hcZ.mono (fun k e => hGA k (.inr e)))
      refine ⟨A7, C7, by rw [HLA.out]; rfl, ?_, (((hal.trans hcd).trans hch).andThen hcs (fun k e => .inr (by have : k = w.heap.size := e; omega))).trans hct |>.andThen hcZ (fun k e => .inr (by have : k = w.heap.size + 1 := e; omega))⟩
      rw [← HLA.out]
      exact (hs7.ch hcG (fun k e => e)).more (fun k e => .inl (hFG k e))
    refine AllReadyT.cons (by simp only [List.getElem?_toArray, List.getElem?_cons_zero, List.getElem?_cons_succ]; exact rfl) (fun K hK => ?_) AllReadyT.nil
    go_simp
    obtain ⟨w5_, hw_⟩ : ∃ z, z = w1_.alloc (.cells #[.int .i64 la] 3) := ⟨_, rfl⟩
    obtain ⟨g6, hg_⟩ : ∃ z, z = w1_.heap.size := ⟨_, rfl⟩
    have hst_ : Ch No w1_ w5_ := by rw [hw_]; exact (Ch.refl _ _).alloc _
    have hch : Ch No wd w5_ := hch.trans hst_
    have hgb6 : w1_.heap.size ≤ g6 ∧ g6 < w5_.heap.size := by rw [hw_, hg_]; simp
    have hb6n : w5_.heap[g6]? = some (.cells #[.int .i64 la] 3 (0, 0)) := by rw [hw_, hg_]; exact heap_alloc_new _ _
    have ho0 := ho0.ch0 hst_
    have hb6 := hb6n
    rw [← hw_, ← hg_]
    refine hK.out _ _ (KS _ hch) (fun hHeld => ?_)
    clear hK K hw_ hg_
    try simp only [Act.put, List.setIfInBounds_toArray, List.set_cons_zero, List.set_cons_succ]
    refine wpAnyT_ready (rs := [3]) (by kernel_rfl) (by kernel_rfl) ?_
    refine AllReadyT.cons (by simp only [List.getElem?_toArray, List.getElem?_cons_zero, List.getElem?_cons_succ]; exact rfl) (fun K hK => ?_) AllReadyT.nil
    have hsl_ := hslF w5_ hch g0 (by have := (ho0.blk g0 rfl).1; omega)
    refine step_append (by rfl) _ _ _ (by rfl) n0 3 (.int .i64 0) 1 8 Try.underlying22 infoInt rfl (by decide) (intRp .i64) rfl No (.slice (some ⟨g0, 0, none⟩) 0 0) [] (by rfl) ho0 _ _ L (by rfl) hsl_ (by simp; omega) (by simp; omega) (by have := hch.size; omega) ?_
    intro v3 w6_ ho3 hst_ hk3 hrk_
    rw [List.nil_append] at ho3
    have hch : Ch No wd w6_ := hch.andThen hst_ (fun k e => .inr (by have := (ho0.blk k e).1; omega))
    have hb6 := hst_.heap hb6 (fun q => by have e : g0 = g6 := (by simpa [Value.ownBlock] using q); omega)
    have hd36 : ∀ k, v3.ownBlock = some k → k ≠ g6 := fun k e => by
      rcases hk3 k e with q | q
      · have e2 : g0 = k := (by simpa [Value.ownBlock] using q)
        omega
      · omega
    refine hK.out _ _ (KS _ hch) (fun hHeld => ?_)
    clear hK K hst_ hrk_
    try simp only [Act.put, List.setIfInBounds_toArray, List.set_cons_zero, List.set_cons_succ]
    refine wpAnyT_ready (rs := [7]) (by kernel_rfl) (by kernel_rfl) ?_
    refine AllReadyT.cons (by simp only [List.getElem?_toArray, List.getElem?_cons_zero, List.getElem?_cons_succ]; exact rfl) (fun K hK => ?_) AllReadyT.nil
    have hsl6_ : SlR (intRp .i64) (fun k => No k ∨ v3.ownBlock = some k) w6_ (some ⟨g6, 0, none⟩) 1 [la] := SlR.lit1 hb6 hla (fun q => q.elim (fun z => z) (fun z => hd36 g6 z rfl))
    refine step_append (by rfl) _ _ _ (by rfl) n0 3 (.int .i64 0) 1 8 Try.underlying22 infoInt rfl (by decide) (intRp .i64) rfl No v3 L (by rfl) ho3 (some ⟨g6, 0, none⟩) 1 [la] (by rfl) hsl6_ (by simp; omega) (by simp; omega) (by have := hch.size; omega) ?_
    intro v7 w7_ ho7 hst_ hk7 hrk_
    have hch : Ch No wd w7_ := hch.andThen hst_ (fun k e => .inr (by have := (ho3.blk k e).1; omega))
    refine hK.out _ _ (KS _ hch) (fun hHeld => ?_)
    clear hK K hst_ hrk_
    try simp only [Act.put, List.setIfInBounds_toArray, List.set_cons_zero, List.set_cons_succ]
    refine wpAnyT_tail (by kernel_rfl) ?_
    clear hHeld
    have hw7 : ∃ z, z = w7_ := ⟨_, rfl⟩
    obtain ⟨w7, hw7⟩ := hw7
    rw [← hw7] at hch ho7 ⊢
    clear hw7
    obtain ⟨A7, C7, hv7, hs7⟩ := (OwnR.ofInts (F := G) ho7.ints.1 rfl ho7.ints.2).sl hGn
    rw [List.length_append, List.length_singleton] at hv7
    subst hv7
    have hd7 := hch.heap hd4d (fun q => q)
    have hz7 := hch.heap hz4d (fun q => q)
    have x0 := cellOf hd7 0 rfl
    have fx0 := freeOf hd7 0
    simp only [List.drop_succ_cons, List.drop_zero]
    go_wp2_with fail
    obtain ⟨ws, hws⟩ : ∃ z, z = w7.setCell ⟨w.heap.size, 0, none⟩ (.slice A7 (L.length + 1) C7) := ⟨_, rfl⟩
    have hcs : Ch (One w.heap.size) w7 ws := by rw [hws]; exact Ch.setIn (F := One w.heap.size) (Ch.refl _ _) (p := ⟨w.heap.size, 0, none⟩) rfl _
    have hds : ws.heap[w.heap.size]? = some (.cells #[.slice A7 (L.length + 1) C7, .int .i64 la, .int .i64 most] 27 (0, 0)) := by rw [hws]; exact heap_set hd7 _
    have hzs : ws.heap[w.heap.size + 1]? = some (.cells #[.slice none 0 0, .int .i64 0, .int .i64 0] 27 (0, 0)) := by rw [hws]; exact heap_set_ne hz7 (by omega) _
    rw [← hws]
    have x0 := cellOf hds 0 rfl
    have x1 := cellOf hds 1 rfl
    have x2 := cellOf hds 2 rfl
    clear hws fx0
    obtain ⟨wt, hwd⟩ : ∃ z, z = ws.drew := ⟨_, rfl⟩
    have hct : Ch No ws wt := by rw [hwd]; exact (Ch.refl _ _).drew
    have hzt := hct.heap hzs (fun q => q)
    have hdt := hct.heap hds (fun q => q)
    have y0 := cellOf hzt 0 rfl
    have y1 := cellOf hzt 1 rfl
    have y2 := cellOf hzt 2 rfl
    have f0 := freeOf hzt 0
    have f1 := freeOf hzt 1
    have f2 := freeOf hzt 2
    have m := three_set (u0 := .slice A7 (L.length + 1) C7) (u1 := .int .i64 la) (u2 := .int .i64 most) hzt
    have e0 := cellOf m 0 rfl
    have e1 := cellOf m 1 rfl
    have e2 := cellOf m 2 rfl
    have hcZ : Ch (One (w.heap.size + 1)) wt (((wt.setCell ⟨w.heap.size + 1, 0, none⟩ (.slice A7 (L.length + 1) C7)).setCell ⟨w.heap.size + 1, 1, none⟩ (.int .i64 la)).setCell ⟨w.heap.size + 1, 2, none⟩ (.int .i64 most)) := Ch.setIn (F := One (w.heap.size + 1)) (Ch.setIn (F := One (w.heap.size + 1)) (Ch.setIn (F := One (w.heap.size + 1)) (Ch.refl _ wt) (p := ⟨w.heap.size + 1, 0, none⟩) rfl (.slice A7 (L.length + 1) C7)) (p := ⟨w.heap.size + 1, 1, none⟩) rfl (.int .i64 la)) (p := ⟨w.heap.size + 1, 2, none⟩) rfl (.int .i64 most)
    have hnz : ¬ One (w.heap.size + 1) w.heap.size := fun e => by have : w.heap.size = w.heap.size + 1 := e; omega
    have KS5 : ∀ W, Ch (One (w.heap.size + 1)) wt W → (fun w' : World => w'.cell? ⟨w.heap.size, 0, none⟩ = some (.slice A7 (L.length + 1) C7) ∧ w'.cell? ⟨w.heap.size, 1, none⟩ = some (.int .i64 la) ∧ w'.cell? ⟨w.heap.size, 2, none⟩ = some (.int .i64 most)) W := fun W hc => ⟨hc.cell (cellOf hdt 0 rfl) hnz, hc.cell (cellOf hdt 1 rfl) hnz, hc.cell (cellOf hdt 2 rfl) hnz⟩
    clear x0 x1 x2
    refine wp_region_tailH (S := (fun w' : World => w'.cell? ⟨w.heap.size, 0, none⟩ = some (.slice A7 (L.length + 1) C7) ∧ w'.cell? ⟨w.heap.size, 1, none⟩ = some (.int .i64 la) ∧ w'.cell? ⟨w.heap.size, 2, none⟩ = some (.int .i64 most))) 4 (by kernel_rfl) (by decide) (by rw [← hwd]; exact KS5 _ (Ch.refl _ _)) (fun hHeld => ?_)
    rw [← hwd] at hHeld ⊢
    have HWD := Lib.hid hwd
    clear hwd
    refine wpAnyT_take (i := 0) (v := ?_) (by simp only [List.getElem?_toArray, List.getElem?_cons_zero, List.getElem?_cons_succ]; exact rfl) (by kernel_rfl) (by kernel_rfl) (by kernel_rfl) (by kernel_rfl) (by intro _ _ _ h; exact h) (Or.inl ⟨by rfl, ?_⟩) (by assumption) ?_
    rotate_left
    · intro w hSw
      (try dsimp only at hSw)
      go_simp
      try (with_reducible rfl)
    try simp only [Act.put, List.setIfInBounds_toArray, List.set_cons_zero, List.set_cons_succ]
    refine wpAnyT_take (i := 1) (v := ?_) (by simp only [List.getElem?_toArray, List.getElem?_cons_zero, List.getElem?_cons_succ]; exact rfl) (by kernel_rfl) (by kernel_rfl) (by kernel_rfl) (by kernel_rfl) (by intro _ _ _ h; exact h) (Or.inl ⟨by rfl, ?_⟩) (by assumption) ?_
    rotate_left
    · intro w hSw
      (try dsimp only at hSw)
      go_simp
      try (with_reducible rfl)
    try simp only [Act.put, List.setIfInBounds_toArray, List.set_cons_zero, List.set_cons_succ]
    refine wpAnyT_take (i := 2) (v := ?_) (by simp only [List.getElem?_toArray, List.getElem?_cons_zero, List.getElem?_cons_succ]; exact rfl) (by kernel_rfl) (by kernel_rfl) (by kernel_rfl) (by kernel_rfl) (by intro _ _ _ h; exact h) (Or.inl ⟨by rfl, ?_⟩) (by assumption) ?_
    rotate_left
    · intro w hSw
      (try dsimp only at hSw)
      go_simp
      try (with_reducible rfl)
    try simp only [Act.put, List.setIfInBounds_toArray, List.set_cons_zero, List.set_cons_succ]
    refine wpAnyT_ready (rs := [3]) (by kernel_rfl) (by kernel_rfl) ?_
    refine AllReadyT.cons (by simp only [List.getElem?_toArray, List.getElem?_cons_zero, List.getElem?_cons_succ]; exact rfl) (fun K hK => ?_) AllReadyT.nil
    go_simp
    refine hK.out _ _ (KS5 _ hcZ) (fun hHeld => ?_)
    clear hK K
    try simp only [Act.put, List.setIfInBounds_toArray, List.set_cons_zero, List.set_cons_succ]
    refine wpAnyT_tail (by kernel_rfl) ?_
    simp only [List.drop_succ_cons, List.drop_zero]
    go_wp2_with fail
    refine bodyPost_ret (results_cell3 (v := .agg #[.slice A7 (L.length + 1) C7, .int .i64 la, .int .i64 most]) rfl _ _ _ (by rfl) (by go_simp)) rfl ?_
    have hcG : Ch G w7 _ := ((hcs.mono (fun k e => hGA k (.inl e))).then0 hct).trans (hcZ.mono (fun k e => hGA k (.inr e)))
    refine ⟨A7, C7, by rw [HLA.out]; rfl, ?_, (((hal.trans hcd).trans hch).andThen hcs (fun k e => .inr (by have : k = w.heap.size := e; omega))).trans hct |>.andThen hcZ (fun k e => .inr (by have : k = w.heap.size + 1 := e; omega))⟩
    rw [← HLA.out]
    exact (hs7.ch hcG (fun k e => e)).more (fun k e => .inl (hFG k e))
  refine AllReadyT.cons (by simp only [List.getElem?_toArray, List.getElem?_cons_zero, List.getElem?_cons_succ]; exact rfl) (fun K hK => ?_) AllReadyT.nil
  go_simp
  obtain ⟨w8_, hw_⟩ : ∃ z, z = wd.alloc (.cells #[.int .i64 la] 3) := ⟨_, rfl⟩
  obtain ⟨g6, hg_⟩ : ∃ z, z = wd.heap.size := ⟨_, rfl⟩
  have hst_ : Ch No wd w8_ := by rw [hw_]; exact (Ch.refl _ _).alloc _
  have hch : Ch No wd w8_ := (Ch.refl No wd).trans hst_
  have hgb6 : wd.heap.size ≤ g6 ∧ g6 < w8_.heap.size := by rw [hw_, hg_]; simp
  have hb6n : w8_.heap[g6]? = some (.cells #[.int .i64 la] 3 (0, 0)) := by rw [hw_, hg_]; exact heap_alloc_new _ _
  have hb6 := hb6n
  rw [← hw_, ← hg_]
  refine hK.out _ _ (KS _ hch) (fun hHeld => ?_)
  clear hK K hw_ hg_
  try simp only [Act.put, List.setIfInBounds_toArray, List.set_cons_zero, List.set_cons_succ]
  refine wpAnyT_ready (rs := [0]) (by kernel_rfl) (by kernel_rfl) ?_
  refine AllReadyT.cons (by simp only [List.getElem?_toArray, List.getElem?_cons_zero, List.getElem?_cons_succ]; exact rfl) (fun K hK => ?_) AllReadyT.nil
  go_simp
  obtain ⟨w9_, hw_⟩ : ∃ z, z = w8_.alloc (.cells #[] 3) := ⟨_, rfl⟩
  obtain ⟨g0, hg_⟩ : ∃ z, z = w8_.heap.size := ⟨_, rfl⟩
  have hst_ : Ch No w8_ w9_ := by rw [hw_]; exact (Ch.refl _ _).alloc _
  have hch : Ch No wd w9_ := hch.trans hst_
  have hgb0 : w8_.heap.size ≤ g0 ∧ g0 < w9_.heap.size := by rw [hw_, hg_]; simp
  have hb0n : w9_.heap[g0]? = some (.cells #[] 3 (0, 0)) := by rw [hw_, hg_]; exact heap_alloc_new _ _
  have hb6 := hst_.heap hb6 (fun q => q)
  have ho0 : OwnR (intRp .i64) n0 3 No w9_ (.slice (some ⟨g0, 0, none⟩) 0 0) [] := by rw [hw_, hg_]; exact OwnR.lit0 (by have := hch.size; omega)
  rw [← hw_, ← hg_]
  refine hK.out _ _ (KS _ hch) (fun hHeld => ?_)
  clear hK K hw_ hg_
  try simp only [Act.put, List.setIfInBounds_toArray, List.set_cons_zero, List.set_cons_succ]
  refine wpAnyT_ready (rs := [3]) (by kernel_rfl) (by kernel_rfl) ?_
  refine AllReadyT.cons (by simp only [List.getElem?_toArray, List.getElem?_cons_zero, List.getElem?_cons_succ]; exact rfl) (fun K hK => ?_) AllReadyT.nil
  have hsl_ := hslF w9_ hch g0 (by have := (ho0.blk g0 rfl).1; omega)
  refine step_append (by rfl) _ _ _ (by rfl) n0 3 (.int .i64 0) 1 8 Try.underlying22 infoInt rfl (by decide) (intRp .i64) rfl No (.slice (some ⟨g0, 0, none⟩) 0 0) [] (by rfl) ho0 _ _ L (by rfl) hsl_ (by simp; omega) (by simp; omega) (by have := hch.size; omega) ?_
  intro v3 w10_ ho3 hst_ hk3 hrk_
  rw [List.nil_append] at ho3
  have hch : Ch No wd w10_ := hch.andThen hst_ (fun k e => .inr (by have := (ho0.blk k e).1; omega))
  have hb6 := hst_.heap hb6 (fun q => by have e : g0 = g6 := (by simpa [Value.ownBlock] using q); omega)
  have hd36 : ∀ k, v3.ownBlock = some k → k ≠ g6 := fun k e => by
    rcases hk3 k e with q | q
    · have e2 : g0 = k := (by simpa [Value.ownBlock] using q)
      omega
    · omega
  refine hK.out _ _ (KS _ hch) (fun hHeld => ?_)
  clear hK K hst_ hrk_
  try simp only [Act.put, List.setIfInBounds_toArray, List.set_cons_zero, List.set_cons_succ]
  refine wpAnyT_ready (rs := [7]) (by kernel_rfl) (by kernel_rfl) ?_
  refine AllReadyT.cons (by simp only [List.getElem?_toArray, List.getElem?_cons_zero, List.getElem?_cons_succ]; exact rfl) (fun K hK => ?_) AllReadyT.nil
  have hsl6_ : SlR (intRp .i64) (fun k => No k ∨ v3.ownBlock = some k) w10_ (some ⟨g6, 0, none⟩) 1 [la] := SlR.lit1 hb6 hla (fun q => q.elim (fun z => z) (fun z => hd36 g6 z rfl))
  refine step_append (by rfl) _ _ _ (by rfl) n0 3 (.int .i64 0) 1 8 Try.underlying22 infoInt rfl (by decide) (intRp .i64) rfl No v3 L (by rfl) ho3 (some ⟨g6, 0, none⟩) 1 [la] (by rfl) hsl6_ (by simp; omega) (by simp; omega) (by have := hch.size; omega) ?_
  intro v7 w11_ ho7 hst_ hk7 hrk_
  have hch : Ch No wd w11_ := hch.andThen hst_ (fun k e => .inr (by have := (ho3.blk k e).1; omega))
  refine hK.out _ _ (KS _ hch) (fun hHeld => ?_)
  clear hK K hst_ hrk_
  try simp only [Act.put, List.setIfInBounds_toArray, List.set_cons_zero, List.set_cons_succ]
  refine wpAnyT_tail (by kernel_rfl) ?_
  clear hHeld
  have hw7 : ∃ z, z = w11_ := ⟨_, rfl⟩
  obtain ⟨w7, hw7⟩ := hw7
  rw [← hw7] at hch ho7 ⊢
  clear hw7
  obtain ⟨A7, C7, hv7, hs7⟩ := (OwnR.ofInts (F := G) ho7.ints.1 rfl ho7.ints.2).sl hGn
  rw [List.length_append, List.length_singleton] at hv7
  subst hv7
  have hd7 := hch.heap hd4d (fun q => q)
  have hz7 := hch.heap hz4d (fun q => q)
  have x0 := cellOf hd7 0 rfl
  have fx0 := freeOf hd7 0
  simp only [List.drop_succ_cons, List.drop_zero]
  go_wp2_with fail
  obtain ⟨ws, hws⟩ : ∃ z, z = w7.setCell ⟨w.heap.size, 0, none⟩ (.slice A7 (L.length + 1) C7) := ⟨_, rfl⟩
  have hcs : Ch (One w.heap.size) w7 ws := by rw [hws]; exact Ch.setIn (F := One w.heap.size) (Ch.refl _ _) (p := ⟨w.heap.size, 0, none⟩) rfl _
  have hds : ws.heap[w.heap.size]? = some (.cells #[.slice A7 (L.length + 1) C7, .int .i64 la, .int .i64 most] 27 (0, 0)) := by rw [hws]; exact heap_set hd7 _
  have hzs : ws.heap[w.heap.size + 1]? = some (.cells #[.slice none 0 0, .int .i64 0, .int .i64 0] 27 (0, 0)) := by rw [hws]; exact heap_set_ne hz7 (by omega) _
  rw [← hws]
  have x0 := cellOf hds 0 rfl
  have x1 := cellOf hds 1 rfl
  have x2 := cellOf hds 2 rfl
  clear hws fx0
  obtain ⟨wt, hwd⟩ : ∃ z, z = ws.drew := ⟨_, rfl⟩
  have hct : Ch No ws wt := by rw [hwd]; exact (Ch.refl _ _).drew
  have hzt := hct.heap hzs (fun q => q)
  have hdt := hct.heap hds (fun q => q)
  have y0 := cellOf hzt 0 rfl
  have y1 := cellOf hzt 1 rfl
  have y2 := cellOf hzt 2 rfl
  have f0 := freeOf hzt 0
  have f1 := freeOf hzt 1
  have f2 := freeOf hzt 2
  have m := three_set (u0 := .slice A7 (L.length + 1) C7) (u1 := .int .i64 la) (u2 := .int .i64 most) hzt
  have e0 := cellOf m 0 rfl
  have e1 := cellOf m 1 rfl
  have e2 := cellOf m 2 rfl
  have hcZ : Ch (One (w.heap.size + 1)) wt (((wt.setCell ⟨w.heap.size + 1, 0, none⟩ (.slice A7 (L.length + 1) C7)).setCell ⟨w.heap.size + 1, 1, none⟩ (.int .i64 la)).setCell ⟨w.heap.size + 1, 2, none⟩ (.int .i64 most)) := Ch.setIn (F := One (w.heap.size + 1)) (Ch.setIn (F := One (w.heap.size + 1)) (Ch.setIn (F := One (w.heap.size + 1)) (Ch.refl _ wt) (p := ⟨w.heap.size + 1, 0, none⟩) rfl (.slice A7 (L.length + 1) C7)) (p := ⟨w.heap.size + 1, 1, none⟩) rfl (.int .i64 la)) (p := ⟨w.heap.size + 1, 2, none⟩) rfl (.int .i64 most)
  have hnz : ¬ One (w.heap.size + 1) w.heap.size := fun e => by have : w.heap.size = w.heap.size + 1 := e; omega
  have KS5 : ∀ W, Ch (One (w.heap.size + 1)) wt W → (fun w' : World => w'.cell? ⟨w.heap.size, 0, none⟩ = some (.slice A7 (L.length + 1) C7) ∧ w'.cell? ⟨w.heap.size, 1, none⟩ = some (.int .i64 la) ∧ w'.cell? ⟨w.heap.size, 2, none⟩ = some (.int .i64 most)) W := fun W hc => ⟨hc.cell (cellOf hdt 0 rfl) hnz, hc.cell (cellOf hdt 1 rfl) hnz, hc.cell (cellOf hdt 2 rfl) hnz⟩
  clear x0 x1 x2
  refine wp_region_tailH (S := (fun w' : World => w'.cell? ⟨w.heap.size, 0, none⟩ = some (.slice A7 (L.length + 1) C7) ∧ w'.cell? ⟨w.heap.size, 1, none⟩ = some (.int .i64 la) ∧ w'.cell? ⟨w.heap.size, 2, none⟩ = some (.int .i64 most))) 4 (by kernel_rfl) (by decide) (by rw [← hwd]; exact KS5 _ (Ch.refl _ _)) (fun hHeld => ?_)
  rw [← hwd] at hHeld ⊢
  have HWD := Lib.hid hwd
  clear hwd
  refine wpAnyT_take (i := 0) (v := ?_) (by simp only [List.getElem?_toArray, List.getElem?_cons_zero, List.getElem?_cons_succ]; exact rfl) (by kernel_rfl) (by kernel_rfl) (by kernel_rfl) (by kernel_rfl) (by intro _ _ _ h; exact h) (Or.inl ⟨by rfl, ?_⟩) (by assumption) ?_
  rotate_left
  · intro w hSw
    (try dsimp only at hSw)
    go_simp
    try (with_reducible rfl)
  try simp only [Act.put, List.setIfInBounds_toArray, List.set_cons_zero, List.set_cons_succ]
  refine wpAnyT_take (i := 1) (v := ?_) (by simp only [List.getElem?_toArray, List.getElem?_cons_zero, List.getElem?_cons_succ]; exact rfl) (by kernel_rfl) (by kernel_rfl) (by kernel_rfl) (by kernel_rfl) (by intro _ _ _ h; exact h) (Or.inl ⟨by rfl, ?_⟩) (by assumption) ?_
  rotate_left
  · intro w hSw
    (try dsimp only at hSw)
    go_simp
    try (with_reducible rfl)
  try simp only [Act.put, List.setIfInBounds_toArray, List.set_cons_zero, List.set_cons_succ]
  refine wpAnyT_take (i := 2) (v := ?_) (by simp only [List.getElem?_toArray, List.getElem?_cons_zero, List.getElem?_cons_succ]; exact rfl) (by kernel_rfl) (by kernel_rfl) (by kernel_rfl) (by kernel_rfl) (by intro _ _ _ h; exact h) (Or.inl ⟨by rfl, ?_⟩) (by assumption) ?_
  rotate_left
  · intro w hSw
    (try dsimp only at hSw)
    go_simp
    try (with_reducible rfl)
  try simp only [Act.put, List.setIfInBounds_toArray, List.set_cons_zero, List.set_cons_succ]
  refine wpAnyT_ready (rs := [3]) (by kernel_rfl) (by kernel_rfl) ?_
  refine AllReadyT.cons (by simp only [List.getElem?_toArray, List.getElem?_cons_zero, List.getElem?_cons_succ]; exact rfl) (fun K hK => ?_) AllReadyT.nil
  go_simp
  refine hK.out _ _ (KS5 _ hcZ) (fun hHeld => ?_)
  clear hK K
  try simp only [Act.put, List.setIfInBounds_toArray, List.set_cons_zero, List.set_cons_succ]
  refine wpAnyT_tail (by kernel_rfl) ?_
  simp only [List.drop_succ_cons, List.drop_zero]
  go_wp2_with fail
  refine bodyPost_ret (results_cell3 (v := .agg #[.slice A7 (L.length + 1) C7, .int .i64 la, .int .i64 most]) rfl _ _ _ (by rfl) (by go_simp)) rfl ?_
  have hcG : Ch G w7 _ := ((hcs.mono (fun k e => hGA k (.inl e))).then0 hct).trans (hcZ.mono (fun k e => hGA k (.inr e)))
  refine ⟨A7, C7, by rw [HLA.out]; rfl, ?_, (((hal.trans hcd).trans hch).andThen hcs (fun k e => .inr (by have : k = w.heap.size := e; omega))).trans hct |>.andThen hcZ (fun k e => .inr (by have : k = w.heap.size + 1 := e; omega))⟩
  rw [← HLA.out]
  exact (hs7.ch hcG (fun k e => e)).more (fun k e => .inl (hFG k e))
end Go.Proofs.Ytinjbonodlkafaa

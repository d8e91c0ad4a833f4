/- The law StartsPlay: the walk. -/
import Derived.Test.YtpldogmamifdpaaPlay09
import Derived.Deep.DeepCutAuto
set_option linter.unusedVariables false
set_option linter.unusedSimpArgs false
namespace Go.Proofs.Ytpldogmamifdpaa
open Go Go.RowKit

/-- What stands while the last region runs. -/
structure Held09 (wB : World) (s p g B N : Nat) (x : List Bool) (q : Option Addr) (c : Nat) (w' : World) : Prop where
  row : StartsAt w' s p g x
  sl : SlR (intRp .i64) (Two g B) w' q c (ones x)
  blk : w'.heap[B]? = some (.cells #[.slice q (ones x).length c, .int .i64 N] 63 (0, 0))
  ch : Ch No wB w'
theorem Held09.ch0 {wB : World} {s p g B N : Nat} {x : List Bool} {q : Option Addr} {c : Nat} {w' w'' : World} (h : Held09 wB s p g B N x q c w') (hc : Ch No w' w'') : Held09 wB s p g B N x q c w'' := ⟨h.row.ch0 hc, h.sl.ch0 hc, hc.heap h.blk (fun q => q), h.ch.trans hc⟩
theorem Held09.full {w : World} {ra rb : Int} {s p g B N : Nat} {x : List Bool} {q : Option Addr} {c : Nat} {w' : World} (h : Held09 (w.alloc (.cells #[.int .i64 ra, .int .i64 rb] 30)) s p g B N x q c w') :
    (w'.cell? ⟨w.heap.size, 0, none⟩ = some (.int .i64 ra) ∧ w'.cell? ⟨w.heap.size, 1, none⟩ = some (.int .i64 rb) ∧ w'.cell? ⟨B, 0, none⟩ = some (.slice q (ones x).length c) ∧ w'.cell? ⟨B, 1, none⟩ = some (.int .i64 N)) ∧ Held09 (w.alloc (.cells #[.int .i64 ra, .int .i64 rb] 30)) s p g B N x q c w' :=
  ⟨⟨h.ch.cell (by simp) (fun q => q), h.ch.cell (by simp) (fun q => q), cellOf h.blk 0 rfl, cellOf h.blk 1 rfl⟩, h⟩

/-- Behind a round. -/
theorem play09_end {wB wa w2 w3 : World} {s p g B N : Nat} {x' : List Bool} {q3 : Option Addr} {c3 : Nat} {V0 V1 : Value} (hB : wB.heap.size ≤ B) (hg : wB.heap.size ≤ g) (hs : s ≠ B) (hp : p ≠ B) (hgB : g ≠ B) (hc : Ch No wB wa) (hc2 : Ch (One g) wa w2) (hr2 : StartsAt w2 s p g x') (hc3 : Ch No w2 w3)
    (hs3 : SlR (intRp .i64) (Two g B) w3 q3 c3 (ones x')) (hlt : B < wa.heap.size) (kB : wa.heap[B]? = some (.cells #[V0, V1] 63 (0, 0))) (O : Obj) :
    StartsAt (((w3.alloc O).setCell ⟨B, 0, none⟩ (.slice q3 (ones x').length c3)).setCell ⟨B, 1, none⟩ (.int .i64 N)) s p g x' ∧ SlR (intRp .i64) (Two g B) (((w3.alloc O).setCell ⟨B, 0, none⟩ (.slice q3 (ones x').length c3)).setCell ⟨B, 1, none⟩ (.int .i64 N)) q3 c3 (ones x') ∧
      (((w3.alloc O).setCell ⟨B, 0, none⟩ (.slice q3 (ones x').length c3)).setCell ⟨B, 1, none⟩ (.int .i64 N)).heap[B]? = some (.cells #[.slice q3 (ones x').length c3, .int .i64 N] 63 (0, 0)) ∧ Ch No wB (((w3.alloc O).setCell ⟨B, 0, none⟩ (.slice q3 (ones x').length c3)).setCell ⟨B, 1, none⟩ (.int .i64 N)) := by
  have hcB : Ch (One B) (w3.alloc O) (((w3.alloc O).setCell ⟨B, 0, none⟩ (.slice q3 (ones x').length c3)).setCell ⟨B, 1, none⟩ (.int .i64 N)) := Ch.setIn (F := One B) (p := ⟨B, 1, none⟩) (Ch.setIn (F := One B) (p := ⟨B, 0, none⟩) (Ch.refl _ _) rfl _) rfl _
  have hal : Ch No w3 (w3.alloc O) := (Ch.refl _ _).alloc _
  have k4 : (w3.alloc O).heap[B]? = some (.cells #[V0, V1] 63 (0, 0)) := hal.heap (hc3.heap (hc2.heap kB (fun e => hgB (show B = g from e).symm)) (fun q => q)) (fun q => q)
  refine ⟨((hr2.ch0 hc3).ch0 hal).ch hcB hs hp hgB, (hs3.ch0 hal).ch hcB (fun k hk => .inr hk), two_set k4, ?_⟩
  exact (((hc.andThen hc2 (fun k hk => .inr (by have : k = g := hk; omega))).trans hc3).trans hal).andThen hcB (fun k hk => .inr (by have : k = B := hk; omega))

set_option maxRecDepth 100000 in
set_option maxHeartbeats 16000000 in
theorem play09 (w : World) (n : Int) (a : Option Addr) (c : Nat) (l : List BAct) (ra rb : Int) (hra : I64 ra) (hrb : I64 rb) (h : SlR bactRp No w a c l) (hi : I64 n) (hl : l.length ≤ 9223372036854775807) :
    Calls Try.prog 8 #[.int .i64 n, .slice a l.length c, .agg #[.int .i64 ra, .int .i64 rb]] w fun e w' => e = .returned (.bool true) ∧ Ch No w w' := by
  have hi' := hi.bd
  have fin : ∀ w1 : World, Ch No (w.alloc (.cells #[.int .i64 ra, .int .i64 rb] 30)) w1 → Ch No w w1 := fun w1 hc => ((Ch.refl _ _).alloc _).trans hc
  by_cases hcut : (300 < n ∧ n ≤ 16384) ∨ 60 < l.length
  · have key : (decide (n > 300) = true ∧ decide (n ≤ 16384) = true) ∨ (decide (n > 300) = true ∧ decide (n ≤ 16384) = false ∧ decide ((l.length : Int) > 60) = true) ∨ (decide (n > 300) = false ∧ decide ((l.length : Int) > 60) = true) := by
      by_cases h1 : 300 < n
      · by_cases h2 : n ≤ 16384
        · exact .inl ⟨decide_eq_true h1, decide_eq_true h2⟩
        · exact .inr (.inl ⟨decide_eq_true h1, decide_eq_false h2, decide_eq_true (by omega)⟩)
      · exact .inr (.inr ⟨decide_eq_false h1, decide_eq_true (by omega)⟩)
    clear hcut
    rcases key with ⟨b1, b2⟩ | ⟨b1, b2, b3⟩ | ⟨b1, b3⟩
    all_goals
      go_enter Try.func8, Try.ntmps8
      go_wp2_with fail
      with_reducible refine (fixed09 _).mono ?_
      rintro e w1 ⟨rfl, hc⟩
      dsimp only
      go_wp2_with fail
      go_ret
      exact ⟨rfl, fin _ hc⟩
  · have b3 : decide ((l.length : Int) > 60) = false := decide_eq_false (by omega)
    have hl60 : l.length ≤ 60 := by omega
    have key : (decide (n > 300) = true ∧ decide (n ≤ 16384) = false) ∨ decide (n > 300) = false := by
      by_cases h3 : 300 < n
      · exact .inl ⟨decide_eq_true h3, decide_eq_false (by omega)⟩
      · exact .inr (decide_eq_false h3)
    have hN : capW n ≤ 16384 := by unfold capW; omega
    have hnew := starts_New (w.alloc (.cells #[.int .i64 ra, .int .i64 rb] 30)) n hi
    have hnew2 := fun W => ref09_New W n hi
    obtain ⟨N, hNd⟩ : ∃ z, z = capW n := ⟨_, rfl⟩
    rw [← hNd] at hN hnew
    simp only [← hNd] at hnew2
    unfold stV at hnew2
    clear hcut hl hNd
    obtain ⟨wB, hwB⟩ : ∃ z, z = w.alloc (.cells #[.int .i64 ra, .int .i64 rb] 30) := ⟨_, rfl⟩
    have HWB := Lib.hid hwB
    go_enter Try.func8, Try.ntmps8
    go_upto_region 1 with fail
    rw [← hwB] at hnew
    go_cut [31] (fun s31 wx => s31 = .bool false ∧ wB = wx)
    case first =>
      rcases key with ⟨b1, b2⟩ | b1
      all_goals (go_wp2_with fail; go_meet; exact ⟨rfl, hwB⟩)
    case rest =>
      obtain ⟨rfl, hcw⟩ := hcut
      subst hcw
      clear key hwB
      go_wp2_with fail
      with_reducible refine hnew.mono ?_
      rintro e w1 ⟨s, p, g, rfl, h1, hs, hp, hg, hc1⟩
      dsimp only
      go_wp2_with fail
      with_reducible refine (hnew2 w1).mono ?_
      rintro e w2 ⟨rfl, hc2⟩
      have h2 := h1.ch0 hc2
      obtain ⟨x0, hx0⟩ : ∃ z, z = List.replicate N false := ⟨_, rfl⟩
      have hxl : x0.length = N := by rw [hx0, List.length_replicate]
      have hon : ones x0 = [] := by rw [hx0]; exact ones_nil N
      have hx00 : x0.getD 0 false = false := by rw [hx0]; simp [List.getD_eq_getElem?_getD, List.getElem?_replicate]; split <;> rfl
      rw [← hx0] at h2
      clear hx0 hnew hnew2 h1
      have hcw2 := hc1.trans hc2
      have hsB : s < w2.heap.size := h2.lt
      have hpB : p < w2.heap.size := h2.row.lt.1
      have hgB : g < w2.heap.size := h2.row.lt.2
      have hBB : wB.heap.size ≤ w2.heap.size := hcw2.size
      have hal3 : Ch No w2 (w2.alloc (.cells #[.slice none 0 0, .int .i64 N] 63)) := (Ch.refl _ _).alloc _
      have k3 : (w2.alloc (.cells #[.slice none 0 0, .int .i64 N] 63)).heap[w2.heap.size]? = some (.cells #[.slice none 0 0, .int .i64 N] 63 (0, 0)) := World.alloc_heap_new _ _
      have h3 := h2.ch0 hal3
      have hcw3 := hcw2.trans hal3
      dsimp only
      go_wp2_with fail
      obtain ⟨B, hB⟩ : ∃ z, z = w2.heap.size := ⟨_, rfl⟩
      rw [← hB] at k3 hsB hpB hgB hBB ⊢
      obtain ⟨w3, hw3⟩ : ∃ z, z = w2.alloc (.cells #[.slice none 0 0, .int .i64 N] 63) := ⟨_, rfl⟩
      rw [← hw3] at k3 h3 hcw3 ⊢
      clear hB hw3 hal3 h2 hcw2 hc2 hc1
      have hsz3 := heap_lt k3
      go_loopw [41] (fun i wr => ∃ (k : Nat) (x : List Bool) (q : Option Addr) (cx : Nat), k ≤ l.length ∧ i = .int .i64 k ∧ x.length = N ∧ x.getD 0 false = false ∧ StartsAt wr s p g x ∧ SlR (intRp .i64) (Two g B) wr q cx (ones x) ∧ wr.heap[B]? = some (.cells #[.slice q (ones x).length cx, .int .i64 N] 63 (0, 0)) ∧ Ch No wB wr) (fun i _ => l.length - (intOf i).toNat)
      case atStart => exact ⟨0, x0, none, 0, by omega, rfl, hxl, hx00, h3, by rw [hon]; exact SlR.nilR _ _ _, by rw [hon]; exact k3, hcw3⟩
      case round =>
        obtain ⟨k, x, q, cx, hk, rfl, hx, hx0, hr, hs, kB, hc⟩ := hrel
        clear h3 k3 hcw3 hxl hon hx00
        have hxN : x.length ≤ 16384 := by omega
        by_cases hlt : k < l.length
        · obtain ⟨b, off, rfl, _, d0, d1, d2, ia, ib⟩ := ((h.ch0 (by rw [HWB.out]; exact (Ch.refl _ _).alloc _)).ch0 hc).bact_at k hlt
          obtain ⟨A, hA⟩ : ∃ A, A = l[k] := ⟨_, rfl⟩
          rw [← hA] at d0 d1 d2 ia ib
          clear hA h
          obtain ⟨a1, b1', on⟩ := A
          dsimp only at d0 d1 d2 ia ib
          have hal : Ch No wr (wr.alloc (.cells #[.int .i64 a1, .int .i64 b1', .bool on] 43)) := (Ch.refl _ _).alloc _
          have kA : (wr.alloc (.cells #[.int .i64 a1, .int .i64 b1', .bool on] 43)).heap[wr.heap.size]? = some (.cells #[.int .i64 a1, .int .i64 b1', .bool on] 43 (0, 0)) := World.alloc_heap_new _ _
          have hr1 := hr.ch0 hal
          have hs1 := hs.ch0 hal
          have kB1 := hal.heap kB (fun q => q)
          have hca := hc.trans hal
          have hBlt := heap_lt kB
          have hBlt1 := heap_lt kB1
          have hg1 : wr.heap.size ≠ g := by omega
          have hgB' : g ≠ B := by omega
          have hsB' : s ≠ B := by omega
          have hpB' : p ≠ B := by omega
          have hF : ∀ (W : World), wr.heap.size ≤ W.heap.size → ∀ k, Two g B k → k < W.heap.size := fun W hW k hk => by rcases hk with hk | hk <;> omega
          cases on with
          | true =>
            have hd1 := starts_Drop _ s p g x a1 b1' hr1 ia ib
            have hd2 := fun W hW hs' => ref09_Drop (Two g B) W q cx (ones x) N a1 b1' hs' (by have := ones_le x; omega) (ones_bd hxN) (hF W hW) ia ib
            simp only [in_ones_len, drop_ones] at hd2
            unfold stV at hd2
            have hxl' := clearAll_length (inL x a1 b1') x
            have hx0' := clear0 x (inL x a1 b1') hx0
            obtain ⟨x', hx'⟩ : ∃ z, z = clearAll x (inL x a1 b1') := ⟨_, rfl⟩
            obtain ⟨T, hT⟩ : ∃ z, z = (inL x a1 b1').length := ⟨_, rfl⟩
            simp only [← hx', ← hT] at hd1 hd2 hxl' hx0'
            rw [hx] at hxl'
            clear hx' hT
            go_wp2_with fail
            with_reducible refine hd1.mono ?_
            rintro e w3 ⟨rfl, hr3, hc3⟩
            have kA3 := hc3.heap kA (fun e => hg1 e)
            have kB3 := hc3.heap kB1 (fun e => hgB' (show B = g from e).symm)
            have hs3 := hs1.ch hc3 (fun k hk => .inl hk)
            have hz3 := hc3.size
            have hd3 := hd2 w3 (by simp at hz3; omega) hs3
            have e0 := cellOf kA3 0 rfl
            have e1 := cellOf kA3 1 rfl
            have e2 := cellOf kB3 0 rfl
            have e3 := cellOf kB3 1 rfl
            clear hd1 hd2
            dsimp only
            go_wp2_with fail
            with_reducible refine hd3.mono ?_
            rintro e w4 ⟨q4, c4, rfl, hs4, hc4⟩
            have kB4 : (w4.alloc (.cells #[.slice q4 (ones x').length c4, .int .i64 N] 63)).heap[B]? = _ := ((Ch.refl No w4).alloc _).heap (hc4.heap kB3 (fun q => q)) (fun q => q)
            have hend := play09_end (N := N) (O := .cells #[.slice q4 (ones x').length c4, .int .i64 N] 63) hBB hg hsB' hpB' hgB' hca hc3 hr3 hc4 hs4 hBlt1 kB1
            have f0 := freeOf kB4 0
            have f1 := freeOf kB4 1
            have r0 := cellOf kB4 0 rfl
            have r1 := cellOf kB4 1 rfl
            dsimp only
            go_wp2_with fail
            obtain ⟨wE, hwE⟩ : ∃ z, z = ((w4.alloc (.cells #[.slice q4 (ones x').length c4, .int .i64 N] 63)).setCell ⟨B, 0, none⟩ (.slice q4 (ones x').length c4)).setCell ⟨B, 1, none⟩ (.int .i64 N) := ⟨_, rfl⟩
            rw [← hwE] at hend ⊢
            obtain ⟨hrE, hsE, kE, hcE⟩ := hend
            clear hwE hs4 hr3 hs3 hr1 hs1 kB1 kA kA3 kB3 kB4 hca hc3 hc4 f0 f1 r0 r1 e0 e1 e2 e3 hr hs kB hc hd3
            have z0 : wE.cell? ⟨B, 0, none⟩ = some (.slice q4 (ones x').length c4) := cellOf kE 0 rfl
            have hct : ∀ n : Nat, Calls Try.prog 36 #[.pointer (some ⟨s, 0, none⟩)] (wE.drewN n) fun e w' => e = .returned (.int .i64 (ones x').length) ∧ wE.drewN n = w' := fun n => by rw [ones_length]; exact starts_Count _ s p g x' (hrE.ch0 ((Ch.refl _ _).drewN n))
            obtain ⟨M, hM⟩ : ∃ z, z = (ones x').length := ⟨_, rfl⟩
            simp only [← hM] at hct z0
            have HM := Lib.hid hM
            clear hM
            go_quiet (first | (go_at_call 36; with_reducible exact quiet_eq9 (hct _)))
            go_wp2_with fail
            go_roundw
            case rel => exact ⟨k + 1, x', q4, c4, by omega, by go_num, hxl', hx0', hrE.ch0 ((Ch.refl _ _).drewN _), hsE.ch0 ((Ch.refl _ _).drewN _), ((Ch.refl No _).drewN _).heap kE (fun q => q), hcE.drewN _⟩
            case measure => exact meas_lt (by omega)
          | false =>
            have hd1 := starts_Put _ s p g x a1 hr1 ia
            have hd2 := fun W hW hs' => ref09_Put (Two g B) W q cx (ones x) N a1 hs' (by have := ones_le x; omega) ia (hF W hW) (ones_sorted x)
            unfold stV at hd2
            have hxl' := putL9_length x a1
            have hx0' := put0 x a1 hx0
            have hput := fun l' E => put_ones (x := x) (i := a1) (l' := l') (E := E)
            obtain ⟨x', hx'⟩ : ∃ z, z = putL9 x a1 := ⟨_, rfl⟩
            obtain ⟨T, hT⟩ : ∃ z, z = putE9 x a1 := ⟨_, rfl⟩
            simp only [← hx', ← hT] at hd1 hxl' hx0' hput
            rw [hx] at hxl' hput
            clear hx' hT
            go_wp2_with fail
            with_reducible refine hd1.mono ?_
            rintro e w3 ⟨rfl, hr3, hc3⟩
            have kA3 := hc3.heap kA (fun e => hg1 e)
            have kB3 := hc3.heap kB1 (fun e => hgB' (show B = g from e).symm)
            have hs3 := hs1.ch hc3 (fun k hk => .inl hk)
            have hz3 := hc3.size
            have hd3 := hd2 w3 (by simp at hz3; omega) hs3
            have e0 := cellOf kA3 0 rfl
            have e1 := cellOf kA3 1 rfl
            have e2 := cellOf kB3 0 rfl
            have e3 := cellOf kB3 1 rfl
            clear hd1 hd2
            dsimp only
            go_wp2_with fail
            with_reducible refine hd3.mono ?_
            rintro e w4 ⟨q4, c4, l4, E4, rfl, hs4, hp4, hc4⟩
            obtain ⟨rfl, rfl⟩ := hput _ _ hp4
            clear hput hp4
            have kB4 : (w4.alloc (.cells #[.slice q4 (ones x').length c4, .int .i64 N] 63)).heap[B]? = _ := ((Ch.refl No w4).alloc _).heap (hc4.heap kB3 (fun q => q)) (fun q => q)
            have hend := play09_end (N := N) (O := .cells #[.slice q4 (ones x').length c4, .int .i64 N] 63) hBB hg hsB' hpB' hgB' hca hc3 hr3 hc4 hs4 hBlt1 kB1
            have f0 := freeOf kB4 0
            have f1 := freeOf kB4 1
            have r0 := cellOf kB4 0 rfl
            have r1 := cellOf kB4 1 rfl
            dsimp only
            go_wp2_with fail
            obtain ⟨wE, hwE⟩ : ∃ z, z = ((w4.alloc (.cells #[.slice q4 (ones x').length c4, .int .i64 N] 63)).setCell ⟨B, 0, none⟩ (.slice q4 (ones x').length c4)).setCell ⟨B, 1, none⟩ (.int .i64 N) := ⟨_, rfl⟩
            rw [← hwE] at hend ⊢
            obtain ⟨hrE, hsE, kE, hcE⟩ := hend
            clear hwE hs4 hr3 hs3 hr1 hs1 kB1 kA kA3 kB3 kB4 hca hc3 hc4 f0 f1 r0 r1 e0 e1 e2 e3 hr hs kB hc hd3
            have z0 : wE.cell? ⟨B, 0, none⟩ = some (.slice q4 (ones x').length c4) := cellOf kE 0 rfl
            have hct : ∀ n : Nat, Calls Try.prog 36 #[.pointer (some ⟨s, 0, none⟩)] (wE.drewN n) fun e w' => e = .returned (.int .i64 (ones x').length) ∧ wE.drewN n = w' := fun n => by rw [ones_length]; exact starts_Count _ s p g x' (hrE.ch0 ((Ch.refl _ _).drewN n))
            obtain ⟨M, hM⟩ : ∃ z, z = (ones x').length := ⟨_, rfl⟩
            simp only [← hM] at hct z0
            have HM := Lib.hid hM
            clear hM
            go_quiet (first | (go_at_call 36; with_reducible exact quiet_eq9 (hct _)))
            go_wp2_with fail
            go_roundw
            case rel => exact ⟨k + 1, x', q4, c4, by omega, by go_num, hxl', hx0', hrE.ch0 ((Ch.refl _ _).drewN _), hsE.ch0 ((Ch.refl _ _).drewN _), ((Ch.refl No _).drewN _).heap kE (fun q => q), hcE.drewN _⟩
            case measure => exact meas_lt (by omega)
        · obtain rfl : k = l.length := by omega
          clear h
          have kr : wr.heap[w.heap.size]? = some (.cells #[.int .i64 ra, .int .i64 rb] 30 (0, 0)) := hc.heap (by rw [HWB.out]; exact World.alloc_heap_new _ _) (fun q => q)
          have e0 : wr.cell? ⟨w.heap.size, 0, none⟩ = some (.int .i64 ra) := cellOf kr 0 rfl
          have e1 : wr.cell? ⟨w.heap.size, 1, none⟩ = some (.int .i64 rb) := cellOf kr 1 rfl
          have z0 : wr.cell? ⟨B, 0, none⟩ = some (.slice q (ones x).length cx) := cellOf kB 0 rfl
          have z1 : wr.cell? ⟨B, 1, none⟩ = some (.int .i64 N) := cellOf kB 1 rfl
          have hbf := starts_Before wr s p g x ra hr hra
          have hbr := ref09_Before (Two g B) wr q cx (ones x) N ra hs (by have := ones_le x; omega)
          unfold stV at hbr
          go_wp2_with fail
          with_reducible refine hbf.mono ?_
          rintro e w5 ⟨r, rfl, hr1, rfl⟩
          obtain ⟨hb1, hb2⟩ := last_ones hx0 hr1
          rw [hb2, hb1] at hbr
          rw [optM_eq]
          obtain ⟨fN, hfN⟩ : ∃ z : Int, z = (optM r : Int) := ⟨_, rfl⟩
          obtain ⟨fB, hfB⟩ : ∃ z, z = r.isSome := ⟨_, rfl⟩
          rw [← hfN, ← hfB] at hbr
          rw [← hfN, ← hfB]
          clear hfN hfB hr1 hb1 hb2 hbf
          dsimp only
          go_wp2_with fail
          with_reducible refine hbr.mono ?_
          rintro e w5 ⟨rfl, hc5⟩
          clear hbr
          have hxN' := hxN
          have cIn : ∀ w', StartsAt w' s p g x → Calls Try.prog 20 #[.pointer (some ⟨s, 0, none⟩), .agg #[.int .i64 ra, .int .i64 rb]] w' fun e w'' => ∃ a c, e = .returned (.slice a ((inL x ra rb).map fun i : Nat => (i : Int)).length c) ∧ SlR (intRp .i64) No w'' a c ((inL x ra rb).map fun i : Nat => (i : Int)) ∧ Ch No w' w'' := by
            intro w' h'
            refine (starts_In w' s p g x ra rb h' hra hrb).mono ?_
            rintro e w'' ⟨v, rfl, hv, hc⟩
            obtain ⟨a, c, rfl, hs⟩ := hv.sl (fun _ q => q.elim)
            exact ⟨a, c, rfl, hs, hc⟩
          have cIn2 : ∀ w', StartsAt w' s p g x → Calls Try.prog 20 #[.pointer (some ⟨s, 0, none⟩), .agg #[.int .i64 0, .int .i64 1099511627776]] w' fun e w'' => ∃ a c, e = .returned (.slice a (ones x).length c) ∧ SlR (intRp .i64) No w'' a c (ones x) ∧ Ch No w' w'' := by
            intro w' h'
            refine (starts_In w' s p g x 0 1099511627776 h' (show _ ∧ _ from by omega) (show _ ∧ _ from by omega)).mono ?_
            rintro e w'' ⟨v, rfl, hv, hc⟩
            rw [in_all hxN'] at hv
            obtain ⟨a, c, rfl, hs⟩ := hv.sl (fun _ q => q.elim)
            exact ⟨a, c, rfl, hs, hc⟩
          have cRIn : ∀ w', SlR (intRp .i64) (Two g B) w' q cx (ones x) → Calls Try.prog 39 #[.agg #[.slice q (ones x).length cx, .int .i64 N], .agg #[.int .i64 ra, .int .i64 rb]] w' fun e w'' => ∃ a c, e = .returned (.slice a ((inL x ra rb).map fun i : Nat => (i : Int)).length c) ∧ SlR (intRp .i64) No w'' a c ((inL x ra rb).map fun i : Nat => (i : Int)) ∧ Ch No w' w'' := by
            intro w' h'
            refine (ref09_In No w' q cx (ones x) N ra rb (h'.more (fun _ q => q.elim)) (by have := ones_le x; omega) (ones_bd hxN') (fun _ q => q.elim) hra hrb).mono ?_
            rintro e w'' ⟨v, rfl, hv, hc⟩
            rw [in_ones] at hv
            obtain ⟨a, c, rfl, hs⟩ := hv.sl (fun _ q => q.elim)
            exact ⟨a, c, rfl, hs, hc⟩
          have hL1 : ((inL x ra rb).map fun i : Nat => (i : Int)).length ≤ 100000 := by rw [List.length_map]; have := inL_le x ra rb; omega
          have hL2 : (ones x).length ≤ 100000 := by have := ones_le x; omega
          obtain ⟨L1, hL1d⟩ : ∃ z, z = (inL x ra rb).map fun i : Nat => (i : Int) := ⟨_, rfl⟩
          simp only [← hL1d] at cIn cRIn hL1
          clear hL1d
          have cS1 : ∀ (w : World) (a a' : Option Addr) (c c' : Nat), SlR (intRp .i64) No w a c L1 → SlR (intRp .i64) No w a' c' L1 → Calls Try.prog 38 #[.slice a L1.length c, .slice a' L1.length c'] w fun e w' => e = .returned (.bool true) ∧ Ch No w w' := by
            intro w a a' c c' h h'
            have := ref04_Same No No w a a' c c' L1 L1 h h' hL1 hL1
            rwa [decide_eq_true rfl] at this
          have cS2 : ∀ (w : World) (a : Option Addr) (c : Nat), SlR (intRp .i64) No w a c (ones x) → SlR (intRp .i64) (Two g B) w q cx (ones x) → Calls Try.prog 38 #[.slice a (ones x).length c, .slice q (ones x).length cx] w fun e w' => e = .returned (.bool true) ∧ Ch No w w' := by
            intro w a c h h'
            have := ref04_Same No (Two g B) w a q c cx (ones x) (ones x) h h' hL2 hL2
            rwa [decide_eq_true rfl] at this
          have hisw := is_wrap hxN rb hrb
          have cIs : ∀ w', StartsAt w' s p g x → Calls Try.prog 22 #[.pointer (some ⟨s, 0, none⟩), .int .u64 (IntKind.u64.wrap rb)] w' fun e w'' => e = .returned (.bool (decide (rb ≥ 0) && decide (rb ∈ ones x))) ∧ w' = w'' := by
            intro w' h'
            rw [← hisw]
            exact starts_Is w' s p g x _ h' (InK.wrap .u64 rb)
          have cRIs : ∀ w', SlR (intRp .i64) (Two g B) w' q cx (ones x) → Calls Try.prog 40 #[.agg #[.slice q (ones x).length cx, .int .i64 N], .int .i64 rb] w' fun e w'' => e = .returned (.bool (decide (rb ∈ ones x))) ∧ Ch No w' w'' := by
            intro w' h'
            exact ref09_Is (Two g B) w' q cx (ones x) N rb h' hL2
          obtain ⟨vB, hvB⟩ : ∃ z, z = decide (rb ∈ ones x) := ⟨_, rfl⟩
          obtain ⟨U, hU⟩ : ∃ z, z = IntKind.u64.wrap rb := ⟨_, rfl⟩
          have C1 : IntKind.u64.wrap rb = U := hU.symm
          rw [← hvB] at cIs
          rw [← hU] at cIs
          rw [← hvB] at cRIs
          have hH : Held09 wB s p g B N x q cx w5.drew := ⟨(hr.ch0 hc5).ch0 (Ch.refl _ _).drew, (hs.ch0 hc5).ch0 (Ch.refl _ _).drew, hc5.drew.heap kB (fun q => q), (hc.trans hc5).drew⟩
          rw [HWB.out] at hH
          clear hvB hU hisw hr hs kB kr e0 e1 z0 z1 hc5 hc hL1 hL2 hxN' hxN hx0 hx hp hg hsz3 hBB
          by_cases hrb0 : rb ≥ 0
          · rw [decide_eq_true hrb0, Bool.true_and] at cIs
            have hbb : (vB == vB) = true := by simp
            obtain ⟨m, rfl⟩ : ∃ m : Nat, rb = m := ⟨rb.toNat, by omega⟩
            clear hrb0
            go_wp2_with fail
            refine wp_region_held_drew (S := (fun w' : World => (w'.cell? ⟨w.heap.size, 0, none⟩ = some (.int .i64 ra) ∧ w'.cell? ⟨w.heap.size, 1, none⟩ = some (.int .i64 (m : Int)) ∧ w'.cell? ⟨B, 0, none⟩ = some (.slice q (ones x).length cx) ∧ w'.cell? ⟨B, 1, none⟩ = some (.int .i64 N)) ∧ Held09 (w.alloc (.cells #[.int .i64 ra, .int .i64 (m : Int)] 30)) s p g B N x q cx w')) (by kernel_rfl) (Held09.full hH) (fun hHeld => ?_)
            refine wpAnyH_ready (rs := [0]) (by kernel_rfl) (by simp) ?_
            refine AllReadyH.cons (by simp only [List.getElem?_toArray, List.getElem?_cons_zero, List.getElem?_cons_succ]; exact rfl) (fun K hK => ?_) AllReadyH.nil
            go_simp
            (go_at_call 18; with_reducible refine (fixed09 _).mono ?_; rintro e w9 ⟨rfl, hc9⟩; have hH9 := Held09.ch0 (And.right (by assumption)) hc9; (try dsimp only))
            try go_wp2_with fail
            refine hK.out _ _ ?_ (fun hHeld => ?_)
            · try dsimp only
              first | assumption | exact Held09.full (by assumption) | fail
            clear hK K
            try simp only [Act.put, List.setIfInBounds_toArray, List.set_cons_zero, List.set_cons_succ]
            refine wpAnyH_take (i := 1) (v := ?_) (by simp only [List.getElem?_toArray, List.getElem?_cons_zero, List.getElem?_cons_succ]; exact rfl) (by kernel_rfl) (by kernel_rfl) (by kernel_rfl) (by intro _ _ _ h; exact h) (Or.inl ⟨by rfl, ?_⟩) (by assumption) ?_
            rotate_left
            · intro w hSw
              (try dsimp only at hSw)
              go_simp
              try (with_reducible rfl)
            try simp only [Act.put, List.setIfInBounds_toArray, List.set_cons_zero, List.set_cons_succ]
            refine wpAnyH_take (i := 2) (v := ?_) (by simp only [List.getElem?_toArray, List.getElem?_cons_zero, List.getElem?_cons_succ]; exact rfl) (by kernel_rfl) (by kernel_rfl) (by kernel_rfl) (by intro _ _ _ h; exact h) (Or.inl ⟨by rfl, ?_⟩) (by assumption) ?_
            rotate_left
            · intro w hSw
              (try dsimp only at hSw)
              go_simp
              try (with_reducible rfl)
            try simp only [Act.put, List.setIfInBounds_toArray, List.set_cons_zero, List.set_cons_succ]
            refine wpAnyH_take (i := 3) (v := ?_) (by simp only [List.getElem?_toArray, List.getElem?_cons_zero, List.getElem?_cons_succ]; exact rfl) (by kernel_rfl) (by kernel_rfl) (by kernel_rfl) (by intro _ _ _ h; exact h) (Or.inl ⟨by rfl, ?_⟩) (by assumption) ?_
            rotate_left
            · intro w hSw
              (try dsimp only at hSw)
              go_simp
              try (with_reducible rfl)
            try simp only [Act.put, List.setIfInBounds_toArray, List.set_cons_zero, List.set_cons_succ]
            refine wpAnyH_take (i := 4) (v := ?_) (by simp only [List.getElem?_toArray, List.getElem?_cons_zero, List.getElem?_cons_succ]; exact rfl) (by kernel_rfl) (by kernel_rfl) (by kernel_rfl) (by intro _ _ _ h; exact h) (Or.inl ⟨by rfl, ?_⟩) (by assumption) ?_
            rotate_left
            · intro w hSw
              (try dsimp only at hSw)
              go_simp
              try (with_reducible rfl)
            try simp only [Act.put, List.setIfInBounds_toArray, List.set_cons_zero, List.set_cons_succ]
            refine wpAnyH_take (i := 5) (v := ?_) (by simp only [List.getElem?_toArray, List.getElem?_cons_zero, List.getElem?_cons_succ]; exact rfl) (by kernel_rfl) (by kernel_rfl) (by kernel_rfl) (by intro _ _ _ h; exact h) (Or.inl ⟨by rfl, ?_⟩) (by assumption) ?_
            rotate_left
            · intro w hSw
              (try dsimp only at hSw)
              go_simp
              try (with_reducible rfl)
            try simp only [Act.put, List.setIfInBounds_toArray, List.set_cons_zero, List.set_cons_succ]
            refine wpAnyH_take (i := 6) (v := ?_) (by simp only [List.getElem?_toArray, List.getElem?_cons_zero, List.getElem?_cons_succ]; exact rfl) (by kernel_rfl) (by kernel_rfl) (by kernel_rfl) (by intro _ _ _ h; exact h) (Or.inl ⟨by rfl, ?_⟩) (by assumption) ?_
            rotate_left
            · intro w hSw
              (try dsimp only at hSw)
              go_simp
              try (with_reducible rfl)
            try simp only [Act.put, List.setIfInBounds_toArray, List.set_cons_zero, List.set_cons_succ]
            refine wpAnyH_take (i := 7) (v := ?_) (by simp only [List.getElem?_toArray, List.getElem?_cons_zero, List.getElem?_cons_succ]; exact rfl) (by kernel_rfl) (by kernel_rfl) (by kernel_rfl) (by intro _ _ _ h; exact h) (Or.inl ⟨by rfl, ?_⟩) (by assumption) ?_
            rotate_left
            · intro w hSw
              (try dsimp only at hSw)
              go_simp
              try (with_reducible rfl)
            try simp only [Act.put, List.setIfInBounds_toArray, List.set_cons_zero, List.set_cons_succ]
            refine wpAnyH_take (i := 8) (v := ?_) (by simp only [List.getElem?_toArray, List.getElem?_cons_zero, List.getElem?_cons_succ]; exact rfl) (by kernel_rfl) (by kernel_rfl) (by kernel_rfl) (by intro _ _ _ h; exact h) (Or.inl ⟨by rfl, ?_⟩) (by assumption) ?_
            rotate_left
            · intro w hSw
              (try dsimp only at hSw)
              go_simp
              try (with_reducible rfl)
            try simp only [Act.put, List.setIfInBounds_toArray, List.set_cons_zero, List.set_cons_succ]
            refine wpAnyH_take (i := 9) (v := ?_) (by simp only [List.getElem?_toArray, List.getElem?_cons_zero, List.getElem?_cons_succ]; exact rfl) (by kernel_rfl) (by kernel_rfl) (by kernel_rfl) (by intro _ _ _ h; exact h) (Or.inl ⟨by rfl, ?_⟩) (by assumption) ?_
            rotate_left
            · intro w hSw
              (try dsimp only at hSw)
              go_simp
              try (with_reducible rfl)
            try simp only [Act.put, List.setIfInBounds_toArray, List.set_cons_zero, List.set_cons_succ]
            refine wpAnyH_take (i := 10) (v := ?_) (by simp only [List.getElem?_toArray, List.getElem?_cons_zero, List.getElem?_cons_succ]; exact rfl) (by kernel_rfl) (by kernel_rfl) (by kernel_rfl) (by intro _ _ _ h; exact h) (Or.inl ⟨by rfl, ?_⟩) (by assumption) ?_
            rotate_left
            · intro w hSw
              (try dsimp only at hSw)
              go_simp
              try (with_reducible rfl)
            try simp only [Act.put, List.setIfInBounds_toArray, List.set_cons_zero, List.set_cons_succ]
            refine wpAnyH_take (i := 11) (v := ?_) (by simp only [List.getElem?_toArray, List.getElem?_cons_zero, List.getElem?_cons_succ]; exact rfl) (by kernel_rfl) (by kernel_rfl) (by kernel_rfl) (by intro _ _ _ h; exact h) (Or.inl ⟨by rfl, ?_⟩) (by assumption) ?_
            rotate_left
            · intro w hSw
              (try dsimp only at hSw)
              go_simp
              try (with_reducible rfl)
            try simp only [Act.put, List.setIfInBounds_toArray, List.set_cons_zero, List.set_cons_succ]
            refine wpAnyH_take (i := 12) (v := ?_) (by simp only [List.getElem?_toArray, List.getElem?_cons_zero, List.getElem?_cons_succ]; exact rfl) (by kernel_rfl) (by kernel_rfl) (by kernel_rfl) (by intro _ _ _ h; exact h) (Or.inl ⟨by rfl, ?_⟩) (by assumption) ?_
            rotate_left
            · intro w hSw
              (try dsimp only at hSw)
              go_simp
              try (with_reducible rfl)
            try simp only [Act.put, List.setIfInBounds_toArray, List.set_cons_zero, List.set_cons_succ]
            refine wpAnyH_take (i := 13) (v := ?_) (by simp only [List.getElem?_toArray, List.getElem?_cons_zero, List.getElem?_cons_succ]; exact rfl) (by kernel_rfl) (by kernel_rfl) (by kernel_rfl) (by intro _ _ _ h; exact h) (Or.inl ⟨by rfl, ?_⟩) (by assumption) ?_
            rotate_left
            · intro w hSw
              (try dsimp only at hSw)
              go_simp
              try (with_reducible rfl)
            try simp only [Act.put, List.setIfInBounds_toArray, List.set_cons_zero, List.set_cons_succ]
            refine wpAnyH_take (i := 15) (v := ?_) (by simp only [List.getElem?_toArray, List.getElem?_cons_zero, List.getElem?_cons_succ]; exact rfl) (by kernel_rfl) (by kernel_rfl) (by kernel_rfl) (by intro _ _ _ h; exact h) (Or.inl ⟨by rfl, ?_⟩) (by assumption) ?_
            rotate_left
            · intro w hSw
              (try dsimp only at hSw)
              go_simp
              try (with_reducible rfl)
            try simp only [Act.put, List.setIfInBounds_toArray, List.set_cons_zero, List.set_cons_succ]
            refine wpAnyH_take (i := 16) (v := ?_) (by simp only [List.getElem?_toArray, List.getElem?_cons_zero, List.getElem?_cons_succ]; exact rfl) (by kernel_rfl) (by kernel_rfl) (by kernel_rfl) (by intro _ _ _ h; exact h) (Or.inl ⟨by rfl, ?_⟩) (by assumption) ?_
            rotate_left
            · intro w hSw
              (try dsimp only at hSw)
              go_simp
              try (with_reducible rfl)
            try simp only [Act.put, List.setIfInBounds_toArray, List.set_cons_zero, List.set_cons_succ]
            refine wpAnyH_ready (rs := [14]) (by kernel_rfl) (by simp) ?_
            refine AllReadyH.cons (by simp only [List.getElem?_toArray, List.getElem?_cons_zero, List.getElem?_cons_succ]; exact rfl) (fun K hK => ?_) AllReadyH.nil
            go_simp
            (go_at_call 20; with_reducible refine (cIn _ (Held09.row (And.right (by assumption)))).mono ?_; rintro e w9 ⟨a9, c9, rfl, hs9, hc9⟩; have hH9 := Held09.ch0 (And.right (by assumption)) hc9; (try dsimp only))
            try go_wp2_with fail
            refine hK.out _ _ ?_ (fun hHeld => ?_)
            · try dsimp only
              first | assumption | exact Held09.full (by assumption) | fail
            clear hK K
            try simp only [Act.put, List.setIfInBounds_toArray, List.set_cons_zero, List.set_cons_succ]
            refine wpAnyH_ready (rs := [17]) (by kernel_rfl) (by simp) ?_
            refine AllReadyH.cons (by simp only [List.getElem?_toArray, List.getElem?_cons_zero, List.getElem?_cons_succ]; exact rfl) (fun K hK => ?_) AllReadyH.nil
            go_simp
            (go_at_call 39; with_reducible refine (cRIn _ (Held09.sl (And.right (by assumption)))).mono ?_; rintro e w9 ⟨a9, c9, rfl, hs9, hc9⟩; have hH9 := Held09.ch0 (And.right (by assumption)) hc9; (have hs8 := SlR.ch0 (e := intRp .i64) (F := No) (by assumption) hc9); (try dsimp only))
            try go_wp2_with fail
            refine hK.out _ _ ?_ (fun hHeld => ?_)
            · try dsimp only
              first | assumption | exact Held09.full (by assumption) | fail
            clear hK K
            try simp only [Act.put, List.setIfInBounds_toArray, List.set_cons_zero, List.set_cons_succ]
            refine wpAnyH_ready (rs := [18]) (by kernel_rfl) (by simp) ?_
            refine AllReadyH.cons (by simp only [List.getElem?_toArray, List.getElem?_cons_zero, List.getElem?_cons_succ]; exact rfl) (fun K hK => ?_) AllReadyH.nil
            go_simp
            (go_at_call 38; with_reducible refine (cS1 _ _ _ _ _ (by assumption) (by assumption)).mono ?_; rintro e w9 ⟨rfl, hc9⟩; have hH9 := Held09.ch0 (And.right (by assumption)) hc9; (try dsimp only))
            try go_wp2_with fail
            refine hK.out _ _ ?_ (fun hHeld => ?_)
            · try dsimp only
              first | assumption | exact Held09.full (by assumption) | fail
            clear hK K
            try simp only [Act.put, List.setIfInBounds_toArray, List.set_cons_zero, List.set_cons_succ]
            refine wpAnyH_take (i := 19) (v := ?_) (by simp only [List.getElem?_toArray, List.getElem?_cons_zero, List.getElem?_cons_succ]; exact rfl) (by kernel_rfl) (by kernel_rfl) (by kernel_rfl) (by intro _ _ _ h; exact h) (Or.inl ⟨by rfl, ?_⟩) (by assumption) ?_
            rotate_left
            · intro w hSw
              (try dsimp only at hSw)
              go_simp
              try (with_reducible rfl)
            try simp only [Act.put, List.setIfInBounds_toArray, List.set_cons_zero, List.set_cons_succ]
            refine wpAnyH_take (i := 20) (v := ?_) (by simp only [List.getElem?_toArray, List.getElem?_cons_zero, List.getElem?_cons_succ]; exact rfl) (by kernel_rfl) (by kernel_rfl) (by kernel_rfl) (by intro _ _ _ h; exact h) (Or.inl ⟨by rfl, ?_⟩) (by assumption) ?_
            rotate_left
            · intro w hSw
              (try dsimp only at hSw)
              go_simp
              try (with_reducible rfl)
            try simp only [Act.put, List.setIfInBounds_toArray, List.set_cons_zero, List.set_cons_succ]
            refine wpAnyH_take (i := 21) (v := ?_) (by simp only [List.getElem?_toArray, List.getElem?_cons_zero, List.getElem?_cons_succ]; exact rfl) (by kernel_rfl) (by kernel_rfl) (by kernel_rfl) (by intro _ _ _ h; exact h) (Or.inl ⟨by rfl, ?_⟩) (by assumption) ?_
            rotate_left
            · intro w hSw
              (try dsimp only at hSw)
              go_simp
              try (with_reducible rfl)
            try simp only [Act.put, List.setIfInBounds_toArray, List.set_cons_zero, List.set_cons_succ]
            refine wpAnyH_take (i := 22) (v := ?_) (by simp only [List.getElem?_toArray, List.getElem?_cons_zero, List.getElem?_cons_succ]; exact rfl) (by kernel_rfl) (by kernel_rfl) (by kernel_rfl) (by intro _ _ _ h; exact h) (Or.inl ⟨by rfl, ?_⟩) (by assumption) ?_
            rotate_left
            · intro w hSw
              (try dsimp only at hSw)
              go_simp
              try (with_reducible rfl)
            try simp only [Act.put, List.setIfInBounds_toArray, List.set_cons_zero, List.set_cons_succ]
            refine wpAnyH_take (i := 23) (v := ?_) (by simp only [List.getElem?_toArray, List.getElem?_cons_zero, List.getElem?_cons_succ]; exact rfl) (by kernel_rfl) (by kernel_rfl) (by kernel_rfl) (by intro _ _ _ h; exact h) (Or.inl ⟨by rfl, ?_⟩) (by assumption) ?_
            rotate_left
            · intro w hSw
              (try dsimp only at hSw)
              go_simp
              try (with_reducible rfl)
            try simp only [Act.put, List.setIfInBounds_toArray, List.set_cons_zero, List.set_cons_succ]
            refine wpAnyH_take (i := 24) (v := ?_) (by simp only [List.getElem?_toArray, List.getElem?_cons_zero, List.getElem?_cons_succ]; exact rfl) (by kernel_rfl) (by kernel_rfl) (by kernel_rfl) (by intro _ _ _ h; exact h) (Or.inl ⟨by rfl, ?_⟩) (by assumption) ?_
            rotate_left
            · intro w hSw
              (try dsimp only at hSw)
              go_simp
              try (with_reducible rfl)
            try simp only [Act.put, List.setIfInBounds_toArray, List.set_cons_zero, List.set_cons_succ]
            refine wpAnyH_take (i := 26) (v := ?_) (by simp only [List.getElem?_toArray, List.getElem?_cons_zero, List.getElem?_cons_succ]; exact rfl) (by kernel_rfl) (by kernel_rfl) (by kernel_rfl) (by intro _ _ _ h; exact h) (Or.inl ⟨by rfl, ?_⟩) (by assumption) ?_
            rotate_left
            · intro w hSw
              (try dsimp only at hSw)
              go_simp
              try (with_reducible rfl)
            try simp only [Act.put, List.setIfInBounds_toArray, List.set_cons_zero, List.set_cons_succ]
            refine wpAnyH_take (i := 27) (v := ?_) (by simp only [List.getElem?_toArray, List.getElem?_cons_zero, List.getElem?_cons_succ]; exact rfl) (by kernel_rfl) (by kernel_rfl) (by kernel_rfl) (by intro _ _ _ h; exact h) (Or.inl ⟨by rfl, ?_⟩) (by assumption) ?_
            rotate_left
            · intro w hSw
              (try dsimp only at hSw)
              go_simp
              try (with_reducible rfl)
            try simp only [Act.put, List.setIfInBounds_toArray, List.set_cons_zero, List.set_cons_succ]
            refine wpAnyH_take (i := 28) (v := ?_) (by simp only [List.getElem?_toArray, List.getElem?_cons_zero, List.getElem?_cons_succ]; exact rfl) (by kernel_rfl) (by kernel_rfl) (by kernel_rfl) (by intro _ _ _ h; exact h) (Or.inl ⟨by rfl, ?_⟩) (by assumption) ?_
            rotate_left
            · intro w hSw
              (try dsimp only at hSw)
              go_simp
              try (with_reducible rfl)
            try simp only [Act.put, List.setIfInBounds_toArray, List.set_cons_zero, List.set_cons_succ]
            refine wpAnyH_ready (rs := [25]) (by kernel_rfl) (by simp) ?_
            refine AllReadyH.cons (by simp only [List.getElem?_toArray, List.getElem?_cons_zero, List.getElem?_cons_succ]; exact rfl) (fun K hK => ?_) AllReadyH.nil
            go_simp
            (go_at_call 22; with_reducible refine (cIs _ (Held09.row (And.right (by assumption)))).mono ?_; rintro e w9 ⟨rfl, rfl⟩; (try dsimp only))
            try go_wp2_with fail
            refine hK.out _ _ ?_ (fun hHeld => ?_)
            · try dsimp only
              first | assumption | exact Held09.full (by assumption) | fail
            clear hK K
            try simp only [Act.put, List.setIfInBounds_toArray, List.set_cons_zero, List.set_cons_succ]
            refine wpAnyH_take (i := 29) (v := ?_) (by simp only [List.getElem?_toArray, List.getElem?_cons_zero, List.getElem?_cons_succ]; exact rfl) (by kernel_rfl) (by kernel_rfl) (by kernel_rfl) (by intro _ _ _ h; exact h) (Or.inl ⟨by rfl, ?_⟩) (by assumption) ?_
            rotate_left
            · intro w hSw
              (try dsimp only at hSw)
              go_simp
              try (with_reducible rfl)
            try simp only [Act.put, List.setIfInBounds_toArray, List.set_cons_zero, List.set_cons_succ]
            refine wpAnyH_take (i := 30) (v := ?_) (by simp only [List.getElem?_toArray, List.getElem?_cons_zero, List.getElem?_cons_succ]; exact rfl) (by kernel_rfl) (by kernel_rfl) (by kernel_rfl) (by intro _ _ _ h; exact h) (Or.inl ⟨by rfl, ?_⟩) (by assumption) ?_
            rotate_left
            · intro w hSw
              (try dsimp only at hSw)
              go_simp
              try (with_reducible rfl)
            try simp only [Act.put, List.setIfInBounds_toArray, List.set_cons_zero, List.set_cons_succ]
            refine wpAnyH_take (i := 31) (v := ?_) (by simp only [List.getElem?_toArray, List.getElem?_cons_zero, List.getElem?_cons_succ]; exact rfl) (by kernel_rfl) (by kernel_rfl) (by kernel_rfl) (by intro _ _ _ h; exact h) (Or.inl ⟨by rfl, ?_⟩) (by assumption) ?_
            rotate_left
            · intro w hSw
              (try dsimp only at hSw)
              go_simp
              try (with_reducible rfl)
            try simp only [Act.put, List.setIfInBounds_toArray, List.set_cons_zero, List.set_cons_succ]
            refine wpAnyH_take (i := 32) (v := ?_) (by simp only [List.getElem?_toArray, List.getElem?_cons_zero, List.getElem?_cons_succ]; exact rfl) (by kernel_rfl) (by kernel_rfl) (by kernel_rfl) (by intro _ _ _ h; exact h) (Or.inl ⟨by rfl, ?_⟩) (by assumption) ?_
            rotate_left
            · intro w hSw
              (try dsimp only at hSw)
              go_simp
              try (with_reducible rfl)
            try simp only [Act.put, List.setIfInBounds_toArray, List.set_cons_zero, List.set_cons_succ]
            refine wpAnyH_ready (rs := [33]) (by kernel_rfl) (by simp) ?_
            refine AllReadyH.cons (by simp only [List.getElem?_toArray, List.getElem?_cons_zero, List.getElem?_cons_succ]; exact rfl) (fun K hK => ?_) AllReadyH.nil
            go_simp
            (go_at_call 40; with_reducible refine (cRIs _ (Held09.sl (And.right (by assumption)))).mono ?_; rintro e w9 ⟨rfl, hc9⟩; have hH9 := Held09.ch0 (And.right (by assumption)) hc9; (try dsimp only))
            try go_wp2_with fail
            refine hK.out _ _ ?_ (fun hHeld => ?_)
            · try dsimp only
              first | assumption | exact Held09.full (by assumption) | fail
            clear hK K
            try simp only [Act.put, List.setIfInBounds_toArray, List.set_cons_zero, List.set_cons_succ]
            refine wpAnyH_take (i := 34) (v := ?_) (by simp only [List.getElem?_toArray, List.getElem?_cons_zero, List.getElem?_cons_succ]; exact rfl) (by kernel_rfl) (by kernel_rfl) (by kernel_rfl) (by intro _ _ _ h; exact h) (Or.inl ⟨by rfl, ?_⟩) (by assumption) ?_
            rotate_left
            · intro w hSw
              (try dsimp only at hSw)
              go_simp
              try (with_reducible rfl)
            try simp only [Act.put, List.setIfInBounds_toArray, List.set_cons_zero, List.set_cons_succ]
            refine wpAnyH_take (i := 35) (v := ?_) (by simp only [List.getElem?_toArray, List.getElem?_cons_zero, List.getElem?_cons_succ]; exact rfl) (by kernel_rfl) (by kernel_rfl) (by kernel_rfl) (by intro _ _ _ h; exact h) (Or.inl ⟨by rfl, ?_⟩) (by assumption) ?_
            rotate_left
            · intro w hSw
              (try dsimp only at hSw)
              go_simp
              try (with_reducible rfl)
            try simp only [Act.put, List.setIfInBounds_toArray, List.set_cons_zero, List.set_cons_succ]
            refine wpAnyH_take (i := 36) (v := ?_) (by simp only [List.getElem?_toArray, List.getElem?_cons_zero, List.getElem?_cons_succ]; exact rfl) (by kernel_rfl) (by kernel_rfl) (by kernel_rfl) (by intro _ _ _ h; exact h) (Or.inl ⟨by rfl, ?_⟩) (by assumption) ?_
            rotate_left
            · intro w hSw
              (try dsimp only at hSw)
              go_simp
              try (with_reducible rfl)
            try simp only [Act.put, List.setIfInBounds_toArray, List.set_cons_zero, List.set_cons_succ]
            refine wpAnyH_take (i := 37) (v := ?_) (by simp only [List.getElem?_toArray, List.getElem?_cons_zero, List.getElem?_cons_succ]; exact rfl) (by kernel_rfl) (by kernel_rfl) (by kernel_rfl) (by intro _ _ _ h; exact h) (Or.inl ⟨by rfl, ?_⟩) (by assumption) ?_
            rotate_left
            · intro w hSw
              (try dsimp only at hSw)
              go_simp
              try (with_reducible rfl)
            try simp only [Act.put, List.setIfInBounds_toArray, List.set_cons_zero, List.set_cons_succ]
            refine wpAnyH_take (i := 38) (v := ?_) (by simp only [List.getElem?_toArray, List.getElem?_cons_zero, List.getElem?_cons_succ]; exact rfl) (by kernel_rfl) (by kernel_rfl) (by kernel_rfl) (by intro _ _ _ h; exact h) (Or.inl ⟨by rfl, ?_⟩) (by assumption) ?_
            rotate_left
            · intro w hSw
              (try dsimp only at hSw)
              go_simp
              try (with_reducible rfl)
            try simp only [Act.put, List.setIfInBounds_toArray, List.set_cons_zero, List.set_cons_succ]
            refine wpAnyH_take (i := 39) (v := ?_) (by simp only [List.getElem?_toArray, List.getElem?_cons_zero, List.getElem?_cons_succ]; exact rfl) (by kernel_rfl) (by kernel_rfl) (by kernel_rfl) (by intro _ _ _ h; exact h) (Or.inl ⟨by rfl, ?_⟩) (by assumption) ?_
            rotate_left
            · intro w hSw
              (try dsimp only at hSw)
              go_simp
              try (with_reducible rfl)
            try simp only [Act.put, List.setIfInBounds_toArray, List.set_cons_zero, List.set_cons_succ]
            refine wpAnyH_take (i := 41) (v := ?_) (by simp only [List.getElem?_toArray, List.getElem?_cons_zero, List.getElem?_cons_succ]; exact rfl) (by kernel_rfl) (by kernel_rfl) (by kernel_rfl) (by intro _ _ _ h; exact h) (Or.inl ⟨by rfl, ?_⟩) (by assumption) ?_
            rotate_left
            · intro w hSw
              (try dsimp only at hSw)
              go_simp
              try (with_reducible rfl)
            try simp only [Act.put, List.setIfInBounds_toArray, List.set_cons_zero, List.set_cons_succ]
            refine wpAnyH_take (i := 42) (v := ?_) (by simp only [List.getElem?_toArray, List.getElem?_cons_zero, List.getElem?_cons_succ]; exact rfl) (by kernel_rfl) (by kernel_rfl) (by kernel_rfl) (by intro _ _ _ h; exact h) (Or.inl ⟨by rfl, ?_⟩) (by assumption) ?_
            rotate_left
            · intro w hSw
              (try dsimp only at hSw)
              go_simp
              try (with_reducible rfl)
            try simp only [Act.put, List.setIfInBounds_toArray, List.set_cons_zero, List.set_cons_succ]
            refine wpAnyH_ready (rs := [40]) (by kernel_rfl) (by simp) ?_
            refine AllReadyH.cons (by simp only [List.getElem?_toArray, List.getElem?_cons_zero, List.getElem?_cons_succ]; exact rfl) (fun K hK => ?_) AllReadyH.nil
            go_simp
            (go_at_call 20; with_reducible refine (cIn2 _ (Held09.row (And.right (by assumption)))).mono ?_; rintro e w9 ⟨a9, c9, rfl, hs9, hc9⟩; have hH9 := Held09.ch0 (And.right (by assumption)) hc9; (try dsimp only))
            try go_wp2_with fail
            refine hK.out _ _ ?_ (fun hHeld => ?_)
            · try dsimp only
              first | assumption | exact Held09.full (by assumption) | fail
            clear hK K
            try simp only [Act.put, List.setIfInBounds_toArray, List.set_cons_zero, List.set_cons_succ]
            refine wpAnyH_ready (rs := [43]) (by kernel_rfl) (by simp) ?_
            refine AllReadyH.cons (by simp only [List.getElem?_toArray, List.getElem?_cons_zero, List.getElem?_cons_succ]; exact rfl) (fun K hK => ?_) AllReadyH.nil
            go_simp
            (go_at_call 38; with_reducible refine (cS2 _ _ _ (by assumption) (Held09.sl (And.right (by assumption)))).mono ?_; rintro e w9 ⟨rfl, hc9⟩; have hH9 := Held09.ch0 (And.right (by assumption)) hc9; (try dsimp only))
            try go_wp2_with fail
            refine hK.out _ _ ?_ (fun hHeld => ?_)
            · try dsimp only
              first | assumption | exact Held09.full (by assumption) | fail
            clear hK K
            try simp only [Act.put, List.setIfInBounds_toArray, List.set_cons_zero, List.set_cons_succ]
            refine wpAnyH_take (i := 44) (v := ?_) (by simp only [List.getElem?_toArray, List.getElem?_cons_zero, List.getElem?_cons_succ]; exact rfl) (by kernel_rfl) (by kernel_rfl) (by kernel_rfl) (by intro _ _ _ h; exact h) (Or.inl ⟨by rfl, ?_⟩) (by assumption) ?_
            rotate_left
            · intro w hSw
              (try dsimp only at hSw)
              go_simp
              try (with_reducible rfl)
            try simp only [Act.put, List.setIfInBounds_toArray, List.set_cons_zero, List.set_cons_succ]
            refine wpAnyH_take (i := 45) (v := ?_) (by simp only [List.getElem?_toArray, List.getElem?_cons_zero, List.getElem?_cons_succ]; exact rfl) (by kernel_rfl) (by kernel_rfl) (by kernel_rfl) (by intro _ _ _ h; exact h) (Or.inl ⟨by rfl, ?_⟩) (by assumption) ?_
            rotate_left
            · intro w hSw
              (try dsimp only at hSw)
              go_simp
              try (with_reducible rfl)
            try simp only [Act.put, List.setIfInBounds_toArray, List.set_cons_zero, List.set_cons_succ]
            refine wpAnyH_done (by kernel_rfl) ?_ _
            go_wp2_with fail
            go_ret
            have hE := Held09.ch (And.right (by assumption))
            exact ⟨rfl, fin _ hE⟩
          · rw [decide_eq_false hrb0, Bool.false_and] at cIs
            obtain ⟨m, rfl⟩ : ∃ m : Nat, rb = Int.negSucc m := ⟨(-rb - 1).toNat, by omega⟩
            clear hrb0
            go_wp2_with fail
            refine wp_region_held_drew (S := (fun w' : World => (w'.cell? ⟨w.heap.size, 0, none⟩ = some (.int .i64 ra) ∧ w'.cell? ⟨w.heap.size, 1, none⟩ = some (.int .i64 (Int.negSucc m)) ∧ w'.cell? ⟨B, 0, none⟩ = some (.slice q (ones x).length cx) ∧ w'.cell? ⟨B, 1, none⟩ = some (.int .i64 N)) ∧ Held09 (w.alloc (.cells #[.int .i64 ra, .int .i64 (Int.negSucc m)] 30)) s p g B N x q cx w')) (by kernel_rfl) (Held09.full hH) (fun hHeld => ?_)
            refine wpAnyH_ready (rs := [0]) (by kernel_rfl) (by simp) ?_
            refine AllReadyH.cons (by simp only [List.getElem?_toArray, List.getElem?_cons_zero, List.getElem?_cons_succ]; exact rfl) (fun K hK => ?_) AllReadyH.nil
            go_simp
            (go_at_call 18; with_reducible refine (fixed09 _).mono ?_; rintro e w9 ⟨rfl, hc9⟩; have hH9 := Held09.ch0 (And.right (by assumption)) hc9; (try dsimp only))
            try go_wp2_with fail
            refine hK.out _ _ ?_ (fun hHeld => ?_)
            · try dsimp only
              first | assumption | exact Held09.full (by assumption) | fail
            clear hK K
            try simp only [Act.put, List.setIfInBounds_toArray, List.set_cons_zero, List.set_cons_succ]
            refine wpAnyH_take (i := 1) (v := ?_) (by simp only [List.getElem?_toArray, List.getElem?_cons_zero, List.getElem?_cons_succ]; exact rfl) (by kernel_rfl) (by kernel_rfl) (by kernel_rfl) (by intro _ _ _ h; exact h) (Or.inl ⟨by rfl, ?_⟩) (by assumption) ?_
            rotate_left
            · intro w hSw
              (try dsimp only at hSw)
              go_simp
              try (with_reducible rfl)
            try simp only [Act.put, List.setIfInBounds_toArray, List.set_cons_zero, List.set_cons_succ]
            refine wpAnyH_take (i := 2) (v := ?_) (by simp only [List.getElem?_toArray, List.getElem?_cons_zero, List.getElem?_cons_succ]; exact rfl) (by kernel_rfl) (by kernel_rfl) (by kernel_rfl) (by intro _ _ _ h; exact h) (Or.inl ⟨by rfl, ?_⟩) (by assumption) ?_
            rotate_left
            · intro w hSw
              (try dsimp only at hSw)
              go_simp
              try (with_reducible rfl)
            try simp only [Act.put, List.setIfInBounds_toArray, List.set_cons_zero, List.set_cons_succ]
            refine wpAnyH_take (i := 3) (v := ?_) (by simp only [List.getElem?_toArray, List.getElem?_cons_zero, List.getElem?_cons_succ]; exact rfl) (by kernel_rfl) (by kernel_rfl) (by kernel_rfl) (by intro _ _ _ h; exact h) (Or.inl ⟨by rfl, ?_⟩) (by assumption) ?_
            rotate_left
            · intro w hSw
              (try dsimp only at hSw)
              go_simp
              try (with_reducible rfl)
            try simp only [Act.put, List.setIfInBounds_toArray, List.set_cons_zero, List.set_cons_succ]
            refine wpAnyH_take (i := 4) (v := ?_) (by simp only [List.getElem?_toArray, List.getElem?_cons_zero, List.getElem?_cons_succ]; exact rfl) (by kernel_rfl) (by kernel_rfl) (by kernel_rfl) (by intro _ _ _ h; exact h) (Or.inl ⟨by rfl, ?_⟩) (by assumption) ?_
            rotate_left
            · intro w hSw
              (try dsimp only at hSw)
              go_simp
              try (with_reducible rfl)
            try simp only [Act.put, List.setIfInBounds_toArray, List.set_cons_zero, List.set_cons_succ]
            refine wpAnyH_take (i := 5) (v := ?_) (by simp only [List.getElem?_toArray, List.getElem?_cons_zero, List.getElem?_cons_succ]; exact rfl) (by kernel_rfl) (by kernel_rfl) (by kernel_rfl) (by intro _ _ _ h; exact h) (Or.inl ⟨by rfl, ?_⟩) (by assumption) ?_
            rotate_left
            · intro w hSw
              (try dsimp only at hSw)
              go_simp
              try (with_reducible rfl)
            try simp only [Act.put, List.setIfInBounds_toArray, List.set_cons_zero, List.set_cons_succ]
            refine wpAnyH_take (i := 6) (v := ?_) (by simp only [List.getElem?_toArray, List.getElem?_cons_zero, List.getElem?_cons_succ]; exact rfl) (by kernel_rfl) (by kernel_rfl) (by kernel_rfl) (by intro _ _ _ h; exact h) (Or.inl ⟨by rfl, ?_⟩) (by assumption) ?_
            rotate_left
            · intro w hSw
              (try dsimp only at hSw)
              go_simp
              try (with_reducible rfl)
            try simp only [Act.put, List.setIfInBounds_toArray, List.set_cons_zero, List.set_cons_succ]
            refine wpAnyH_take (i := 7) (v := ?_) (by simp only [List.getElem?_toArray, List.getElem?_cons_zero, List.getElem?_cons_succ]; exact rfl) (by kernel_rfl) (by kernel_rfl) (by kernel_rfl) (by intro _ _ _ h; exact h) (Or.inl ⟨by rfl, ?_⟩) (by assumption) ?_
            rotate_left
            · intro w hSw
              (try dsimp only at hSw)
              go_simp
              try (with_reducible rfl)
            try simp only [Act.put, List.setIfInBounds_toArray, List.set_cons_zero, List.set_cons_succ]
            refine wpAnyH_take (i := 8) (v := ?_) (by simp only [List.getElem?_toArray, List.getElem?_cons_zero, List.getElem?_cons_succ]; exact rfl) (by kernel_rfl) (by kernel_rfl) (by kernel_rfl) (by intro _ _ _ h; exact h) (Or.inl ⟨by rfl, ?_⟩) (by assumption) ?_
            rotate_left
            · intro w hSw
              (try dsimp only at hSw)
              go_simp
              try (with_reducible rfl)
            try simp only [Act.put, List.setIfInBounds_toArray, List.set_cons_zero, List.set_cons_succ]
            refine wpAnyH_take (i := 9) (v := ?_) (by simp only [List.getElem?_toArray, List.getElem?_cons_zero, List.getElem?_cons_succ]; exact rfl) (by kernel_rfl) (by kernel_rfl) (by kernel_rfl) (by intro _ _ _ h; exact h) (Or.inl ⟨by rfl, ?_⟩) (by assumption) ?_
            rotate_left
            · intro w hSw
              (try dsimp only at hSw)
              go_simp
              try (with_reducible rfl)
            try simp only [Act.put, List.setIfInBounds_toArray, List.set_cons_zero, List.set_cons_succ]
            refine wpAnyH_take (i := 10) (v := ?_) (by simp only [List.getElem?_toArray, List.getElem?_cons_zero, List.getElem?_cons_succ]; exact rfl) (by kernel_rfl) (by kernel_rfl) (by kernel_rfl) (by intro _ _ _ h; exact h) (Or.inl ⟨by rfl, ?_⟩) (by assumption) ?_
            rotate_left
            · intro w hSw
              (try dsimp only at hSw)
              go_simp
              try (with_reducible rfl)
            try simp only [Act.put, List.setIfInBounds_toArray, List.set_cons_zero, List.set_cons_succ]
            refine wpAnyH_take (i := 11) (v := ?_) (by simp only [List.getElem?_toArray, List.getElem?_cons_zero, List.getElem?_cons_succ]; exact rfl) (by kernel_rfl) (by kernel_rfl) (by kernel_rfl) (by intro _ _ _ h; exact h) (Or.inl ⟨by rfl, ?_⟩) (by assumption) ?_
            rotate_left
            · intro w hSw
              (try dsimp only at hSw)
              go_simp
              try (with_reducible rfl)
            try simp only [Act.put, List.setIfInBounds_toArray, List.set_cons_zero, List.set_cons_succ]
            refine wpAnyH_take (i := 12) (v := ?_) (by simp only [List.getElem?_toArray, List.getElem?_cons_zero, List.getElem?_cons_succ]; exact rfl) (by kernel_rfl) (by kernel_rfl) (by kernel_rfl) (by intro _ _ _ h; exact h) (Or.inl ⟨by rfl, ?_⟩) (by assumption) ?_
            rotate_left
            · intro w hSw
              (try dsimp only at hSw)
              go_simp
              try (with_reducible rfl)
            try simp only [Act.put, List.setIfInBounds_toArray, List.set_cons_zero, List.set_cons_succ]
            refine wpAnyH_take (i := 13) (v := ?_) (by simp only [List.getElem?_toArray, List.getElem?_cons_zero, List.getElem?_cons_succ]; exact rfl) (by kernel_rfl) (by kernel_rfl) (by kernel_rfl) (by intro _ _ _ h; exact h) (Or.inl ⟨by rfl, ?_⟩) (by assumption) ?_
            rotate_left
            · intro w hSw
              (try dsimp only at hSw)
              go_simp
              try (with_reducible rfl)
            try simp only [Act.put, List.setIfInBounds_toArray, List.set_cons_zero, List.set_cons_succ]
            refine wpAnyH_take (i := 15) (v := ?_) (by simp only [List.getElem?_toArray, List.getElem?_cons_zero, List.getElem?_cons_succ]; exact rfl) (by kernel_rfl) (by kernel_rfl) (by kernel_rfl) (by intro _ _ _ h; exact h) (Or.inl ⟨by rfl, ?_⟩) (by assumption) ?_
            rotate_left
            · intro w hSw
              (try dsimp only at hSw)
              go_simp
              try (with_reducible rfl)
            try simp only [Act.put, List.setIfInBounds_toArray, List.set_cons_zero, List.set_cons_succ]
            refine wpAnyH_take (i := 16) (v := ?_) (by simp only [List.getElem?_toArray, List.getElem?_cons_zero, List.getElem?_cons_succ]; exact rfl) (by kernel_rfl) (by kernel_rfl) (by kernel_rfl) (by intro _ _ _ h; exact h) (Or.inl ⟨by rfl, ?_⟩) (by assumption) ?_
            rotate_left
            · intro w hSw
              (try dsimp only at hSw)
              go_simp
              try (with_reducible rfl)
            try simp only [Act.put, List.setIfInBounds_toArray, List.set_cons_zero, List.set_cons_succ]
            refine wpAnyH_ready (rs := [14]) (by kernel_rfl) (by simp) ?_
            refine AllReadyH.cons (by simp only [List.getElem?_toArray, List.getElem?_cons_zero, List.getElem?_cons_succ]; exact rfl) (fun K hK => ?_) AllReadyH.nil
            go_simp
            (go_at_call 20; with_reducible refine (cIn _ (Held09.row (And.right (by assumption)))).mono ?_; rintro e w9 ⟨a9, c9, rfl, hs9, hc9⟩; have hH9 := Held09.ch0 (And.right (by assumption)) hc9; (try dsimp only))
            try go_wp2_with fail
            refine hK.out _ _ ?_ (fun hHeld => ?_)
            · try dsimp only
              first | assumption | exact Held09.full (by assumption) | fail
            clear hK K
            try simp only [Act.put, List.setIfInBounds_toArray, List.set_cons_zero, List.set_cons_succ]
            refine wpAnyH_ready (rs := [17]) (by kernel_rfl) (by simp) ?_
            refine AllReadyH.cons (by simp only [List.getElem?_toArray, List.getElem?_cons_zero, List.getElem?_cons_succ]; exact rfl) (fun K hK => ?_) AllReadyH.nil
            go_simp
            (go_at_call 39; with_reducible refine (cRIn _ (Held09.sl (And.right (by assumption)))).mono ?_; rintro e w9 ⟨a9, c9, rfl, hs9, hc9⟩; have hH9 := Held09.ch0 (And.right (by assumption)) hc9; (have hs8 := SlR.ch0 (e := intRp .i64) (F := No) (by assumption) hc9); (try dsimp only))
            try go_wp2_with fail
            refine hK.out _ _ ?_ (fun hHeld => ?_)
            · try dsimp only
              first | assumption | exact Held09.full (by assumption) | fail
            clear hK K
            try simp only [Act.put, List.setIfInBounds_toArray, List.set_cons_zero, List.set_cons_succ]
            refine wpAnyH_ready (rs := [18]) (by kernel_rfl) (by simp) ?_
            refine AllReadyH.cons (by simp only [List.getElem?_toArray, List.getElem?_cons_zero, List.getElem?_cons_succ]; exact rfl) (fun K hK => ?_) AllReadyH.nil
            go_simp
            (go_at_call 38; with_reducible refine (cS1 _ _ _ _ _ (by assumption) (by assumption)).mono ?_; rintro e w9 ⟨rfl, hc9⟩; have hH9 := Held09.ch0 (And.right (by assumption)) hc9; (try dsimp only))
            try go_wp2_with fail
            refine hK.out _ _ ?_ (fun hHeld => ?_)
            · try dsimp only
              first | assumption | exact Held09.full (by assumption) | fail
            clear hK K
            try simp only [Act.put, List.setIfInBounds_toArray, List.set_cons_zero, List.set_cons_succ]
            refine wpAnyH_take (i := 19) (v := ?_) (by simp only [List.getElem?_toArray, List.getElem?_cons_zero, List.getElem?_cons_succ]; exact rfl) (by kernel_rfl) (by kernel_rfl) (by kernel_rfl) (by intro _ _ _ h; exact h) (Or.inl ⟨by rfl, ?_⟩) (by assumption) ?_
            rotate_left
            · intro w hSw
              (try dsimp only at hSw)
              go_simp
              try (with_reducible rfl)
            try simp only [Act.put, List.setIfInBounds_toArray, List.set_cons_zero, List.set_cons_succ]
            refine wpAnyH_take (i := 20) (v := ?_) (by simp only [List.getElem?_toArray, List.getElem?_cons_zero, List.getElem?_cons_succ]; exact rfl) (by kernel_rfl) (by kernel_rfl) (by kernel_rfl) (by intro _ _ _ h; exact h) (Or.inl ⟨by rfl, ?_⟩) (by assumption) ?_
            rotate_left
            · intro w hSw
              (try dsimp only at hSw)
              go_simp
              try (with_reducible rfl)
            try simp only [Act.put, List.setIfInBounds_toArray, List.set_cons_zero, List.set_cons_succ]
            refine wpAnyH_take (i := 21) (v := ?_) (by simp only [List.getElem?_toArray, List.getElem?_cons_zero, List.getElem?_cons_succ]; exact rfl) (by kernel_rfl) (by kernel_rfl) (by kernel_rfl) (by intro _ _ _ h; exact h) (Or.inl ⟨by rfl, ?_⟩) (by assumption) ?_
            rotate_left
            · intro w hSw
              (try dsimp only at hSw)
              go_simp
              try (with_reducible rfl)
            try simp only [Act.put, List.setIfInBounds_toArray, List.set_cons_zero, List.set_cons_succ]
            refine wpAnyH_take (i := 22) (v := ?_) (by simp only [List.getElem?_toArray, List.getElem?_cons_zero, List.getElem?_cons_succ]; exact rfl) (by kernel_rfl) (by kernel_rfl) (by kernel_rfl) (by intro _ _ _ h; exact h) (Or.inl ⟨by rfl, ?_⟩) (by assumption) ?_
            rotate_left
            · intro w hSw
              (try dsimp only at hSw)
              go_simp
              try (with_reducible rfl)
            try simp only [Act.put, List.setIfInBounds_toArray, List.set_cons_zero, List.set_cons_succ]
            refine wpAnyH_take (i := 23) (v := ?_) (by simp only [List.getElem?_toArray, List.getElem?_cons_zero, List.getElem?_cons_succ]; exact rfl) (by kernel_rfl) (by kernel_rfl) (by kernel_rfl) (by intro _ _ _ h; exact h) (Or.inl ⟨by rfl, ?_⟩) (by assumption) ?_
            rotate_left
            · intro w hSw
              (try dsimp only at hSw)
              go_simp
              try (with_reducible rfl)
            try simp only [Act.put, List.setIfInBounds_toArray, List.set_cons_zero, List.set_cons_succ]
            refine wpAnyH_take (i := 24) (v := ?_) (by simp only [List.getElem?_toArray, List.getElem?_cons_zero, List.getElem?_cons_succ]; exact rfl) (by kernel_rfl) (by kernel_rfl) (by kernel_rfl) (by intro _ _ _ h; exact h) (Or.inl ⟨by rfl, ?_⟩) (by assumption) ?_
            rotate_left
            · intro w hSw
              (try dsimp only at hSw)
              go_simp
              try (with_reducible rfl)
            try simp only [Act.put, List.setIfInBounds_toArray, List.set_cons_zero, List.set_cons_succ]
            refine wpAnyH_take (i := 26) (v := ?_) (by simp only [List.getElem?_toArray, List.getElem?_cons_zero, List.getElem?_cons_succ]; exact rfl) (by kernel_rfl) (by kernel_rfl) (by kernel_rfl) (by intro _ _ _ h; exact h) (Or.inl ⟨by rfl, ?_⟩) (by assumption) ?_
            rotate_left
            · intro w hSw
              (try dsimp only at hSw)
              go_simp
              try (with_reducible rfl)
            try simp only [Act.put, List.setIfInBounds_toArray, List.set_cons_zero, List.set_cons_succ]
            refine wpAnyH_take (i := 27) (v := ?_) (by simp only [List.getElem?_toArray, List.getElem?_cons_zero, List.getElem?_cons_succ]; exact rfl) (by kernel_rfl) (by kernel_rfl) (by kernel_rfl) (by intro _ _ _ h; exact h) (Or.inl ⟨by rfl, ?_⟩) (by assumption) ?_
            rotate_left
            · intro w hSw
              (try dsimp only at hSw)
              go_simp
              try (with_reducible rfl)
            try simp only [Act.put, List.setIfInBounds_toArray, List.set_cons_zero, List.set_cons_succ]
            refine wpAnyH_take (i := 28) (v := ?_) (by simp only [List.getElem?_toArray, List.getElem?_cons_zero, List.getElem?_cons_succ]; exact rfl) (by kernel_rfl) (by kernel_rfl) (by kernel_rfl) (by intro _ _ _ h; exact h) (Or.inl ⟨by rfl, ?_⟩) (by assumption) ?_
            rotate_left
            · intro w hSw
              (try dsimp only at hSw)
              go_simp
              try (with_reducible rfl)
            try simp only [Act.put, List.setIfInBounds_toArray, List.set_cons_zero, List.set_cons_succ]
            refine wpAnyH_ready (rs := [25]) (by kernel_rfl) (by simp) ?_
            refine AllReadyH.cons (by simp only [List.getElem?_toArray, List.getElem?_cons_zero, List.getElem?_cons_succ]; exact rfl) (fun K hK => ?_) AllReadyH.nil
            go_simp
            (go_at_call 22; with_reducible refine (cIs _ (Held09.row (And.right (by assumption)))).mono ?_; rintro e w9 ⟨rfl, rfl⟩; (try dsimp only))
            try go_wp2_with fail
            refine hK.out _ _ ?_ (fun hHeld => ?_)
            · try dsimp only
              first | assumption | exact Held09.full (by assumption) | fail
            clear hK K
            try simp only [Act.put, List.setIfInBounds_toArray, List.set_cons_zero, List.set_cons_succ]
            refine wpAnyH_take (i := 29) (v := ?_) (by simp only [List.getElem?_toArray, List.getElem?_cons_zero, List.getElem?_cons_succ]; exact rfl) (by kernel_rfl) (by kernel_rfl) (by kernel_rfl) (by intro _ _ _ h; exact h) (Or.inl ⟨by rfl, ?_⟩) (by assumption) ?_
            rotate_left
            · intro w hSw
              (try dsimp only at hSw)
              go_simp
              try (with_reducible rfl)
            try simp only [Act.put, List.setIfInBounds_toArray, List.set_cons_zero, List.set_cons_succ]
            refine wpAnyH_take (i := 30) (v := undef) (by simp only [List.getElem?_toArray, List.getElem?_cons_zero, List.getElem?_cons_succ]; exact rfl) (by kernel_rfl) (by kernel_rfl) (by kernel_rfl) (by intro _ _ _ h; exact h) (Or.inr ⟨by rfl, rfl⟩) (by assumption) ?_
            try simp only [Act.put, List.setIfInBounds_toArray, List.set_cons_zero, List.set_cons_succ]
            refine wpAnyH_take (i := 31) (v := undef) (by simp only [List.getElem?_toArray, List.getElem?_cons_zero, List.getElem?_cons_succ]; exact rfl) (by kernel_rfl) (by kernel_rfl) (by kernel_rfl) (by intro _ _ _ h; exact h) (Or.inr ⟨by rfl, rfl⟩) (by assumption) ?_
            try simp only [Act.put, List.setIfInBounds_toArray, List.set_cons_zero, List.set_cons_succ]
            refine wpAnyH_take (i := 32) (v := undef) (by simp only [List.getElem?_toArray, List.getElem?_cons_zero, List.getElem?_cons_succ]; exact rfl) (by kernel_rfl) (by kernel_rfl) (by kernel_rfl) (by intro _ _ _ h; exact h) (Or.inr ⟨by rfl, rfl⟩) (by assumption) ?_
            try simp only [Act.put, List.setIfInBounds_toArray, List.set_cons_zero, List.set_cons_succ]
            refine wpAnyH_take (i := 33) (v := undef) (by simp only [List.getElem?_toArray, List.getElem?_cons_zero, List.getElem?_cons_succ]; exact rfl) (by kernel_rfl) (by kernel_rfl) (by kernel_rfl) (by intro _ _ _ h; exact h) (Or.inr ⟨by rfl, rfl⟩) (by assumption) ?_
            try simp only [Act.put, List.setIfInBounds_toArray, List.set_cons_zero, List.set_cons_succ]
            refine wpAnyH_take (i := 34) (v := ?_) (by simp only [List.getElem?_toArray, List.getElem?_cons_zero, List.getElem?_cons_succ]; exact rfl) (by kernel_rfl) (by kernel_rfl) (by kernel_rfl) (by intro _ _ _ h; exact h) (Or.inl ⟨by rfl, ?_⟩) (by assumption) ?_
            rotate_left
            · intro w hSw
              (try dsimp only at hSw)
              go_simp
              try (with_reducible rfl)
            try simp only [Act.put, List.setIfInBounds_toArray, List.set_cons_zero, List.set_cons_succ]
            refine wpAnyH_take (i := 35) (v := ?_) (by simp only [List.getElem?_toArray, List.getElem?_cons_zero, List.getElem?_cons_succ]; exact rfl) (by kernel_rfl) (by kernel_rfl) (by kernel_rfl) (by intro _ _ _ h; exact h) (Or.inl ⟨by rfl, ?_⟩) (by assumption) ?_
            rotate_left
            · intro w hSw
              (try dsimp only at hSw)
              go_simp
              try (with_reducible rfl)
            try simp only [Act.put, List.setIfInBounds_toArray, List.set_cons_zero, List.set_cons_succ]
            refine wpAnyH_take (i := 36) (v := ?_) (by simp only [List.getElem?_toArray, List.getElem?_cons_zero, List.getElem?_cons_succ]; exact rfl) (by kernel_rfl) (by kernel_rfl) (by kernel_rfl) (by intro _ _ _ h; exact h) (Or.inl ⟨by rfl, ?_⟩) (by assumption) ?_
            rotate_left
            · intro w hSw
              (try dsimp only at hSw)
              go_simp
              try (with_reducible rfl)
            try simp only [Act.put, List.setIfInBounds_toArray, List.set_cons_zero, List.set_cons_succ]
            refine wpAnyH_take (i := 37) (v := ?_) (by simp only [List.getElem?_toArray, List.getElem?_cons_zero, List.getElem?_cons_succ]; exact rfl) (by kernel_rfl) (by kernel_rfl) (by kernel_rfl) (by intro _ _ _ h; exact h) (Or.inl ⟨by rfl, ?_⟩) (by assumption) ?_
            rotate_left
            · intro w hSw
              (try dsimp only at hSw)
              go_simp
              try (with_reducible rfl)
            try simp only [Act.put, List.setIfInBounds_toArray, List.set_cons_zero, List.set_cons_succ]
            refine wpAnyH_take (i := 38) (v := ?_) (by simp only [List.getElem?_toArray, List.getElem?_cons_zero, List.getElem?_cons_succ]; exact rfl) (by kernel_rfl) (by kernel_rfl) (by kernel_rfl) (by intro _ _ _ h; exact h) (Or.inl ⟨by rfl, ?_⟩) (by assumption) ?_
            rotate_left
            · intro w hSw
              (try dsimp only at hSw)
              go_simp
              try (with_reducible rfl)
            try simp only [Act.put, List.setIfInBounds_toArray, List.set_cons_zero, List.set_cons_succ]
            refine wpAnyH_take (i := 39) (v := ?_) (by simp only [List.getElem?_toArray, List.getElem?_cons_zero, List.getElem?_cons_succ]; exact rfl) (by kernel_rfl) (by kernel_rfl) (by kernel_rfl) (by intro _ _ _ h; exact h) (Or.inl ⟨by rfl, ?_⟩) (by assumption) ?_
            rotate_left
            · intro w hSw
              (try dsimp only at hSw)
              go_simp
              try (with_reducible rfl)
            try simp only [Act.put, List.setIfInBounds_toArray, List.set_cons_zero, List.set_cons_succ]
            refine wpAnyH_take (i := 41) (v := ?_) (by simp only [List.getElem?_toArray, List.getElem?_cons_zero, List.getElem?_cons_succ]; exact rfl) (by kernel_rfl) (by kernel_rfl) (by kernel_rfl) (by intro _ _ _ h; exact h) (Or.inl ⟨by rfl, ?_⟩) (by assumption) ?_
            rotate_left
            · intro w hSw
              (try dsimp only at hSw)
              go_simp
              try (with_reducible rfl)
            try simp only [Act.put, List.setIfInBounds_toArray, List.set_cons_zero, List.set_cons_succ]
            refine wpAnyH_take (i := 42) (v := ?_) (by simp only [List.getElem?_toArray, List.getElem?_cons_zero, List.getElem?_cons_succ]; exact rfl) (by kernel_rfl) (by kernel_rfl) (by kernel_rfl) (by intro _ _ _ h; exact h) (Or.inl ⟨by rfl, ?_⟩) (by assumption) ?_
            rotate_left
            · intro w hSw
              (try dsimp only at hSw)
              go_simp
              try (with_reducible rfl)
            try simp only [Act.put, List.setIfInBounds_toArray, List.set_cons_zero, List.set_cons_succ]
            refine wpAnyH_ready (rs := [40]) (by kernel_rfl) (by simp) ?_
            refine AllReadyH.cons (by simp only [List.getElem?_toArray, List.getElem?_cons_zero, List.getElem?_cons_succ]; exact rfl) (fun K hK => ?_) AllReadyH.nil
            go_simp
            (go_at_call 20; with_reducible refine (cIn2 _ (Held09.row (And.right (by assumption)))).mono ?_; rintro e w9 ⟨a9, c9, rfl, hs9, hc9⟩; have hH9 := Held09.ch0 (And.right (by assumption)) hc9; (try dsimp only))
            try go_wp2_with fail
            refine hK.out _ _ ?_ (fun hHeld => ?_)
            · try dsimp only
              first | assumption | exact Held09.full (by assumption) | fail
            clear hK K
            try simp only [Act.put, List.setIfInBounds_toArray, List.set_cons_zero, List.set_cons_succ]
            refine wpAnyH_ready (rs := [43]) (by kernel_rfl) (by simp) ?_
            refine AllReadyH.cons (by simp only [List.getElem?_toArray, List.getElem?_cons_zero, List.getElem?_cons_succ]; exact rfl) (fun K hK => ?_) AllReadyH.nil
            go_simp
            (go_at_call 38; with_reducible refine (cS2 _ _ _ (by assumption) (Held09.sl (And.right (by assumption)))).mono ?_; rintro e w9 ⟨rfl, hc9⟩; have hH9 := Held09.ch0 (And.right (by assumption)) hc9; (try dsimp only))
            try go_wp2_with fail
            refine hK.out _ _ ?_ (fun hHeld => ?_)
            · try dsimp only
              first | assumption | exact Held09.full (by assumption) | fail
            clear hK K
            try simp only [Act.put, List.setIfInBounds_toArray, List.set_cons_zero, List.set_cons_succ]
            refine wpAnyH_take (i := 44) (v := ?_) (by simp only [List.getElem?_toArray, List.getElem?_cons_zero, List.getElem?_cons_succ]; exact rfl) (by kernel_rfl) (by kernel_rfl) (by kernel_rfl) (by intro _ _ _ h; exact h) (Or.inl ⟨by rfl, ?_⟩) (by assumption) ?_
            rotate_left
            · intro w hSw
              (try dsimp only at hSw)
              go_simp
              try (with_reducible rfl)
            try simp only [Act.put, List.setIfInBounds_toArray, List.set_cons_zero, List.set_cons_succ]
            refine wpAnyH_take (i := 45) (v := ?_) (by simp only [List.getElem?_toArray, List.getElem?_cons_zero, List.getElem?_cons_succ]; exact rfl) (by kernel_rfl) (by kernel_rfl) (by kernel_rfl) (by intro _ _ _ h; exact h) (Or.inl ⟨by rfl, ?_⟩) (by assumption) ?_
            rotate_left
            · intro w hSw
              (try dsimp only at hSw)
              go_simp
              try (with_reducible rfl)
            try simp only [Act.put, List.setIfInBounds_toArray, List.set_cons_zero, List.set_cons_succ]
            refine wpAnyH_done (by kernel_rfl) ?_ _
            go_wp2_with fail
            go_ret
            have hE := Held09.ch (And.right (by assumption))
            exact ⟨rfl, fin _ hE⟩
end Go.Proofs.Ytpldogmamifdpaa

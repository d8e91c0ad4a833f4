/- Layer 4 (ids): what a book in memory is; New, Give, Take, Lives, Last. -/
import Derived.Test.YtinjbonodlkafaaMaps
import Derived.BigQuiet
import Derived.StillTailTactics
set_option linter.unusedVariables false
set_option linter.unusedSimpArgs false
namespace Go.Proofs.Ytinjbonodlkafaa
open Go Go.RowKit

theorem infoUnit : (Try.prog.info? 85).map (·.zero) = some (some (.agg #[])) := by kernel_rfl

/-- A book in memory: its numbers are the map's keys. -/
structure BookAt (w : World) (b m : Nat) (al : AL) (last most : Int) : Prop where
  bm : b ≠ m
  head : w.heap[b]? = some (.cells #[.map (some m), .int .i64 last, .int .i64 most] 84 (0, 0))
  map : MapAt w m al
  vals : ∀ k v, aGet al k = some v → v = .agg #[]
theorem BookAt.ch {w w' : World} {b m : Nat} {al : AL} {last most : Int} {F : Nat → Prop} (h : BookAt w b m al last most) (hc : Ch F w w') (h1 : ¬ F b) (h2 : ¬ F m) : BookAt w' b m al last most :=
  ⟨h.bm, hc.heap h.head h1, h.map.ch hc h2, h.vals⟩
theorem BookAt.ch0 {w w' : World} {b m : Nat} {al : AL} {last most : Int} (h : BookAt w b m al last most) (hc : Ch No w w') : BookAt w' b m al last most := h.ch hc (fun q => q) (fun q => q)
theorem BookAt.lt {w : World} {b m : Nat} {al : AL} {last most : Int} (h : BookAt w b m al last most) : b < w.heap.size ∧ m < w.heap.size := ⟨heap_lt h.head, h.map.lt⟩

theorem ids_New (w : World) (most : Int) (hm : I64 most) :
    Calls Try.prog 12 #[.int .i64 most] w fun e w' => ∃ b m, e = .returned (.pointer (some ⟨b, 0, none⟩)) ∧ BookAt w' b m [] 0 (max most 0) ∧ w.heap.size ≤ b ∧ w.heap.size ≤ m ∧ Ch No w w' := by
  have hm' := hm.bd
  go_enter Try.func12, Try.ntmps12
  go_wp2_with fail
  go_ret
  refine ⟨w.heap.size + 1, w.heap.size, rfl, ⟨by omega, ?_, ?_, fun k v h => by cases h⟩, by omega, by omega, ((Ch.refl _ _).alloc _).alloc _⟩
  · simpa using heap_alloc2_new w _ _
  · exact (MapAt.new w).ch0 ((Ch.refl _ _).alloc _)

theorem ids_Lives (w : World) (b m : Nat) (al : AL) (last most k : Int) (h : BookAt w b m al last most) (hk : I64 k) :
    Calls Try.prog 21 #[.pointer (some ⟨b, 0, none⟩), .int .i64 k] w fun e w' => e = .returned (.bool (aGet al k).isSome) ∧ Ch No w w' := by
  have c0 := cellOf h.head 0 rfl
  have hl := run_lookup2 (P := Try.prog) (t := 82) Try.underlying82 (by kernel_rfl) infoUnit h.map k
  have hv : (aGet al k).getD (.agg #[]) = .agg #[] := by
    cases e : aGet al k with
    | none => rfl
    | some v => exact h.vals _ _ e
  rw [hv] at hl
  obtain ⟨s, hs⟩ : ∃ s, s = (aGet al k).isSome := ⟨_, rfl⟩
  rw [← hs] at hl ⊢
  clear hs hv h
  go_enter Try.func21, Try.ntmps21
  go_wp2_with fail
  go_ret
  exact ⟨rfl, (Ch.refl _ _).alloc _⟩

theorem ids_Last (w : World) (b m : Nat) (al : AL) (last most : Int) (h : BookAt w b m al last most) :
    Calls Try.prog 20 #[.pointer (some ⟨b, 0, none⟩)] w fun e w' => e = .returned (.int .i64 last) ∧ w = w' := by
  have c1 := cellOf h.head 1 rfl
  go_enter Try.func20, Try.ntmps20
  go_wp2_with fail
  go_ret
  exact ⟨rfl, rfl⟩

theorem ids_Take_no (w : World) (b m : Nat) (al : AL) (last most k : Int) (h : BookAt w b m al last most) (hk : I64 k) (hg : aGet al k = none) :
    Calls Try.prog 16 #[.pointer (some ⟨b, 0, none⟩), .int .i64 k] w fun e w' => e = .returned (.int .i64 2) ∧ Ch No w w' := by
  have hlv := ids_Lives w b m al last most k h hk
  rw [hg] at hlv
  go_enter Try.func16, Try.ntmps16
  go_wp2_with fail
  with_reducible refine hlv.mono ?_
  rintro e w1 ⟨rfl, hc⟩
  dsimp only [Option.isSome]
  go_wp2_with fail
  go_ret
  exact ⟨rfl, hc⟩

theorem ids_Take (w : World) (b m : Nat) (al : AL) (last most k : Int) (v : Value) (h : BookAt w b m al last most) (hk : I64 k) (hg : aGet al k = some v) :
    Calls Try.prog 16 #[.pointer (some ⟨b, 0, none⟩), .int .i64 k] w fun e w' => e = .returned (.int .i64 0) ∧ BookAt w' b m (aDel al k) last most ∧ Ch (One m) w w' := by
  have hlv := ids_Lives w b m al last most k h hk
  rw [hg] at hlv
  go_enter Try.func16, Try.ntmps16
  go_wp2_with fail
  with_reducible refine hlv.mono ?_
  rintro e w1 ⟨rfl, hc⟩
  have h1 := h.ch0 hc
  have c0 := cellOf h1.head 0 rfl
  obtain ⟨w2, hd, hm2, hc2⟩ := run_delete_al (P := Try.prog) (t := 82) Try.underlying82 (by kernel_rfl) h1.map k 3 1
  have hbm := h.bm
  have hd0 : ∀ ty, (Builtin.delete_ #[82, 3] ty #[.map (some m), .int .i64 k]).run Try.prog w1 = .ok (.tuple #[]) w2 := fun ty => hd
  dsimp only [Option.isSome]
  go_wp2_with fail
  go_ret
  exact ⟨rfl, ⟨h.bm, hc2.heap h1.head (fun q => hbm q), hm2, fun q u hq => by
    rw [aGet_del _ _ _ h.map.nodup] at hq
    split at hq
    · cases hq
    · exact h.vals _ _ hq⟩, (hc.ofNo).trans hc2⟩

theorem ids_Give_no (w : World) (b m : Nat) (al : AL) (last most : Int) (h : BookAt w b m al last most) (hg : most ≤ al.length) :
    Calls Try.prog 14 #[.pointer (some ⟨b, 0, none⟩)] w fun e w' => e = .returned (.tuple #[.int .i64 0, .int .i64 3]) ∧ Ch No w w' := by
  have c0 := cellOf h.head 0 rfl
  have c2 := cellOf h.head 2 rfl
  have hl := fun (k : Nat) => run_len_al (P := Try.prog) (t := 82) (ty := 3) Try.underlying82 (h.map.ch0 ((Ch.refl No w).drewN k))
  obtain ⟨n, hn⟩ : ∃ n, n = al.length := ⟨_, rfl⟩
  rw [← hn] at hl hg
  have b1 : decide ((n : Int) ≥ most) = true := decide_eq_true hg
  clear hn h
  go_enter Try.func14, Try.ntmps14
  go_wp2_with fail
  go_quiet (fail)
  go_wp2_with fail
  go_ret2
  exact ⟨rfl, (Ch.refl _ _).drewN _⟩

set_option maxRecDepth 100000 in
theorem ids_Give (w : World) (b m : Nat) (al : AL) (last most : Int) (h : BookAt w b m al last most) (hg : (al.length : Int) < most) (hla : 0 ≤ last ∧ last ≤ 4611686018427387904) :
    Calls Try.prog 14 #[.pointer (some ⟨b, 0, none⟩)] w fun e w' => e = .returned (.tuple #[.int .i64 (last + 1), .int .i64 0]) ∧ BookAt w' b m (aSet al (last + 1) (.agg #[])) (last + 1) most ∧ Ch (Two b m) w w' := by
  have c0 := cellOf h.head 0 rfl
  have c1 := cellOf h.head 1 rfl
  have c2 := cellOf h.head 2 rfl
  have hl := fun (k : Nat) => run_len_al (P := Try.prog) (t := 82) (ty := 3) Try.underlying82 (h.map.ch0 ((Ch.refl No w).drewN k))
  obtain ⟨n, hn⟩ : ∃ n, n = al.length := ⟨_, rfl⟩
  rw [← hn] at hl hg
  have b1 : decide ((n : Int) ≥ most) = false := decide_eq_false (by omega)
  have e1 : IntKind.i64.wrap (last + 1) = last + 1 := IntWalk.i64_in _ (by omega)
  have hbm := h.bm
  have hl1 : ∀ ty, (Builtin.len_ #[82] ty #[.map (some m)]).run Try.prog w.drew = .ok (.int .i64 n) w.drew := fun ty => hl 1
  clear hn hl
  go_enter Try.func14, Try.ntmps14
  go_wp2_with fail
  go_still_tail 9, (by kernel_rfl)
  change wpList _ _ _ _ _ w.drew
  obtain ⟨w1, hw1⟩ : ∃ z, z = w.drew := ⟨_, rfl⟩
  have hc1 : Ch No w w1 := by rw [hw1]; exact (Ch.refl _ _).drew
  have h1 := h.ch0 hc1
  rw [← hw1]
  have c0 := cellOf h1.head 0 rfl
  have c1 := cellOf h1.head 1 rfl
  have c2 := cellOf h1.head 2 rfl
  have f1 := freeOf h1.head 1
  have hd2 := heap_set (i := 1) h1.head (.int .i64 (last + 1))
  have hcs : Ch (One b) w1 (w1.setCell ⟨b, 1, none⟩ (.int .i64 (last + 1))) := Ch.setIn (F := One b) (Ch.refl _ _) (p := ⟨b, 1, none⟩) rfl _
  have hm2 := h1.map.ch hcs (fun q => hbm (show m = b from q).symm)
  have d0 : (w1.setCell ⟨b, 1, none⟩ (.int .i64 (last + 1))).cell? ⟨b, 0, none⟩ = some (.map (some m)) := cellOf hd2 0 rfl
  have d1 : (w1.setCell ⟨b, 1, none⟩ (.int .i64 (last + 1))).cell? ⟨b, 1, none⟩ = some (.int .i64 (last + 1)) := cellOf hd2 1 rfl
  clear hw1 hl1
  go_wp2_with fail
  obtain ⟨ws, hws⟩ : ∃ z, z = w1.setCell ⟨b, 1, none⟩ (.int .i64 (last + 1)) := ⟨_, rfl⟩
  rw [← hws] at hd2 hcs hm2 d0 d1 ⊢
  have hd2' : ws.heap[b]? = some (.cells #[.map (some m), .int .i64 (last + 1), .int .i64 most] 84 (0, 0)) := hd2
  clear hws c0 c1 c2 f1 hd2
  go_still_tail 9, (by kernel_rfl)
  change wpList _ _ _ _ _ ws.drew
  obtain ⟨w2, hw2⟩ : ∃ z, z = ws.drew := ⟨_, rfl⟩
  have hc2 : Ch (One b) w1 w2 := by rw [hw2]; exact hcs.drew
  have hd3 : w2.heap[b]? = some (.cells #[.map (some m), .int .i64 (last + 1), .int .i64 most] 84 (0, 0)) := by rw [hw2]; exact hd2'
  have hm3 : MapAt w2 m al := by rw [hw2]; exact hm2.ch0 (Ch.refl No _).drew
  rw [← hw2]
  obtain ⟨w3, hu, hm4, hc4⟩ := run_mapUpdate_al (P := Try.prog) (t := 82) Try.underlying82 (by kernel_rfl) hm3 (last + 1) (.agg #[])
  have hd4 := hc4.heap hd3 (fun q => hbm q)
  have d1 := cellOf hd4 1 rfl
  clear hw2 d0
  have d0 := cellOf hd3 0 rfl
  have d1' := cellOf hd3 1 rfl
  go_wp2_with fail
  go_ret2
  refine ⟨rfl, ⟨hbm, hd4, hm4, fun k v hk => ?_⟩, ((hc1.ofNo).trans (hc2.mono (fun k q => .inl q))).trans (hc4.mono (fun k q => .inr q))⟩
  rw [aGet_set] at hk
  split at hk
  · exact (Option.some.inj hk).symm
  · exact h.vals _ _ hk
end Go.Proofs.Ytinjbonodlkafaa

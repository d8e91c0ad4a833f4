/- Layer 5 (tree): what a tree in memory is; New, Has, Parent, Add, Kids, Remove. -/
import Derived.Test.YtinjbonodlkafaaDoorTreePure
import Derived.Test.YtinjbonodlkafaaDoorRange
import Derived.BigQuiet
import Derived.OwnWalk
set_option linter.unusedVariables false
set_option linter.unusedSimpArgs false
namespace Go.Proofs.YtinjbonodlkafaaDoor
open Go Go.RowKit

theorem infoIntT : (Tryd.prog.info? 3).map (·.zero) = some (some (.int .i64 0)) := by kernel_rfl
theorem infoIntT3 : (Tryd.prog.info? 3).map (fun i => (i.zero, i.size, i.bytes)) = some (some (.int .i64 0), 1, 8) := by kernel_rfl

/-- An owned row of numbers, behind a step that leaves its block. -/
theorem OwnR.asideT {k : IntKind} {base : Nat} {T : TypeId} {w w' : World} {v : Value} {l : List Int} {G : Nat → Prop} (h : OwnR (intRp k) base T No w v l) (hc : Ch G w w') (hn : ∀ q, v.ownBlock = some q → ¬ G q) : OwnR (intRp k) base T No w' v l := by
  obtain ⟨xs, hown, hr⟩ := h
  refine ⟨xs, ⟨hown.1, ?_⟩, fun i hi => hr i hi⟩
  rcases hown.2 with hq | ⟨g, cap, cur, hv, hg, hh, rest⟩
  · exact .inl hq
  · exact .inr ⟨g, cap, cur, hv, hg, hc.heap hh (hn g (by rw [hv]; simp [Value.ownBlock])), rest⟩

/-- A tree in memory: each one's parent. -/
structure TreeAt (w : World) (t m : Nat) (L : TRows) : Prop where
  tm : t ≠ m
  head : w.heap[t]? = some (.cells #[.map (some m)] 57 (0, 0))
  map : ∃ al, MapAt w m al ∧ ∀ k, aGet al k = (pget L k).map (Value.int .i64)
theorem TreeAt.ch {w w' : World} {t m : Nat} {L : TRows} {F : Nat → Prop} (h : TreeAt w t m L) (hc : Ch F w w') (h1 : ¬ F t) (h2 : ¬ F m) : TreeAt w' t m L :=
  ⟨h.tm, hc.heap h.head h1, by obtain ⟨al, hm, hg⟩ := h.map; exact ⟨al, hm.ch hc h2, hg⟩⟩
theorem TreeAt.ch0 {w w' : World} {t m : Nat} {L : TRows} (h : TreeAt w t m L) (hc : Ch No w w') : TreeAt w' t m L := h.ch hc (fun q => q) (fun q => q)
theorem TreeAt.lt {w : World} {t m : Nat} {L : TRows} (h : TreeAt w t m L) : t < w.heap.size ∧ m < w.heap.size := ⟨heap_lt h.head, by obtain ⟨al, hm, _⟩ := h.map; exact hm.lt⟩
/-- It reads off its two blocks alone. -/
theorem TreeAt.same {w w' : World} {t m : Nat} {L : TRows} (h : TreeAt w t m L) (h1 : w'.heap[t]? = w.heap[t]?) (h2 : w'.heap[m]? = w.heap[m]?) : TreeAt w' t m L :=
  ⟨h.tm, h1.trans h.head, by
    obtain ⟨al, ⟨hn, es, c, hh, rest⟩, hg⟩ := h.map
    exact ⟨al, ⟨hn, es, c, h2.trans hh, rest⟩, hg⟩⟩

theorem tree_New (w : World) :
    Calls Tryd.prog 18 #[] w fun e w' => ∃ t m, e = .returned (.pointer (some ⟨t, 0, none⟩)) ∧ TreeAt w' t m [] ∧ w.heap.size ≤ t ∧ w.heap.size ≤ m ∧ Ch No w w' := by
  go_enter Tryd.func18, Tryd.ntmps18
  go_wp2_with fail
  go_ret
  refine ⟨w.heap.size + 1, w.heap.size, rfl, ⟨by omega, ?_, [], ?_, fun k => by simp [aGet, pget]⟩, by omega, by omega, ((Ch.refl _ _).alloc _).alloc _⟩
  · simpa using heap_alloc2_new w _ _
  · exact (MapAt.new w).ch0 ((Ch.refl _ _).alloc _)

theorem tree_Has (w : World) (t m : Nat) (L : TRows) (k : Int) (h : TreeAt w t m L) :
    Calls Tryd.prog 25 #[.pointer (some ⟨t, 0, none⟩), .int .i64 k] w fun e w' => e = .returned (.bool (hasB L k)) ∧ w = w' := by
  have c0 := cellOf h.head 0 rfl
  obtain ⟨al, hm, hg⟩ := h.map
  have hl := run_lookup2 (P := Tryd.prog) (t := 55) Tryd.underlying55 (by kernel_rfl) infoIntT hm k
  rw [hg k] at hl
  obtain ⟨s, hs⟩ : ∃ s, s = hasB L k := ⟨_, rfl⟩
  have hs2 : ((pget L k).map (Value.int .i64)).isSome = s := by rw [hs, hasB, Option.isSome_map]
  rw [hs2] at hl
  rw [← hs]
  clear hs hs2 h
  go_enter Tryd.func25, Tryd.ntmps25
  go_wp2_with fail
  go_ret
  exact ⟨rfl, rfl⟩

theorem tree_Parent (w : World) (t m : Nat) (L : TRows) (k : Int) (h : TreeAt w t m L) :
    Calls Tryd.prog 9 #[.pointer (some ⟨t, 0, none⟩), .int .i64 k] w fun e w' => e = .returned (.int .i64 ((pget L k).getD 0)) ∧ w = w' := by
  have c0 := cellOf h.head 0 rfl
  obtain ⟨al, hm, hg⟩ := h.map
  have hl := run_lookup1 (P := Tryd.prog) (t := 55) Tryd.underlying55 (by kernel_rfl) infoIntT hm k
  rw [hg k, show ((pget L k).map (Value.int .i64)).getD (.int .i64 0) = .int .i64 ((pget L k).getD 0) from by cases pget L k <;> rfl] at hl
  go_enter Tryd.func9, Tryd.ntmps9
  go_wp2_with fail
  go_ret
  exact ⟨rfl, rfl⟩

set_option maxRecDepth 100000 in
theorem tree_Kids (F : Nat → Prop) (w : World) (t m n : Nat) (L : TRows) (id : Int) (h : TreeAt w t m L) (ok : TreeOk L n) (hl : L.length ≤ 100000) (hF : ∀ k, F k → k < w.heap.size) :
    Calls Tryd.prog 31 #[.pointer (some ⟨t, 0, none⟩), .int .i64 id] w fun e w' => ∃ q c, e = .returned (.slice q (kids L id).length c) ∧ SlR (intRp .i64) F w' q c (kids L id) ∧ Ch No w w' := by
  have c0 := cellOf h.head 0 rfl
  have hlt := h.lt
  obtain ⟨al, hm, hg⟩ := h.map
  have hkey : ∀ k, k ∈ aKeys al ↔ ∃ p, (k, p) ∈ L := fun k => by
    rw [aKeys_mem, hg k, Option.isSome_map, ← hasB, hasB_true ok.up]
  have hkI : ∀ k ∈ aKeys al, I64 k := fun k hk => by
    obtain ⟨p, hp⟩ := (hkey k).1 hk
    have := ok.ids _ hp
    exact show _ ∧ _ from by simp only at this; omega
  have hall : al.length ≤ L.length := by
    rw [← aKeys_length, show L.length = (L.map (·.1)).length from by simp]
    exact sub_length _ _ hm.nodup (fun k hk => by obtain ⟨p, hp⟩ := (hkey k).1 hk; exact List.mem_map.2 ⟨_, hp, rfl⟩)
  obtain ⟨w3, hrng, hit, hc3, hsz3⟩ := run_range_al (P := Tryd.prog) (t := 55) Tryd.underlying55 hm
  go_enter Tryd.func31, Tryd.ntmps31
  go_wp2_with fail
  obtain ⟨r, hr⟩ : ∃ z, z = w.heap.size := ⟨_, rfl⟩
  simp only [← hr] at hit ⊢
  have hr3 : r < w3.heap.size := by omega
  have hc30 := hc3
  have HR := Lib.hid hr
  clear hc3 hsz3 hrng hr
  go_loopw [5] (fun v wq => ∃ done : List Int, OwnR (intRp .i64) (r + 1) 3 No wq v (done.filter fun k => decide (pget L k = some id)) ∧ done.Nodup ∧ (∀ q ∈ done, q ∈ aKeys al) ∧ IterAt wq r m al done.reverse ∧ Ch No w wq ∧ r < wq.heap.size) (fun _ wq => al.length - (wq.iterSeen r).size)
  case atStart => exact ⟨[], OwnR.nilR _ _ _ _ _, by simp, by simp, hit, hc30, hr3⟩
  case round =>
    clear hit
    obtain ⟨done, ho, hdn, hsub, hit, hc, hrr⟩ := hrel
    have hseen := hit.seen
    rw [List.length_reverse] at hseen
    have hfl := List.length_filter_le (fun k => decide (pget L k = some id)) done
    rcases run_next_al (P := Tryd.prog) hit 0 with ⟨hall2, hrun⟩ | ⟨o, v, w4, hgo, hnd, hrun, hit4, hch, _⟩
    · have hdl := sub_length done (aKeys al) hdn hsub
      rw [aKeys_length] at hdl
      have hso := sort_own wr (r + 1) u5 _ ho (by omega)
      have hfin : sorted (done.filter fun k => decide (pget L k = some id)) = kids L id := sorted_eq (List.Pairwise.filter _ hdn) (kids_up ok.up id) (fun k => by
        rw [List.mem_filter, mem_kids, decide_eq_true_eq, pget_some ok.up]
        constructor
        · exact fun z => z.2
        · exact fun z => ⟨List.mem_reverse.1 (hall2 k ((hkey k).2 ⟨_, z⟩)), z⟩)
      rw [hfin] at hso
      have HL := Lib.hid hfin
      have hlen : (done.filter fun k => decide (pget L k = some id)).length = (kids L id).length := by have := congrArg List.length hfin; rw [sorted_length] at this; exact this
      clear hall2 hfin
      go_wp2_with fail
      with_reducible refine hso.mono ?_
      rintro e w5 ⟨rfl, ho5, hc5⟩
      dsimp only
      go_wp2_with fail
      go_ret
      obtain ⟨q, c, hv, hs⟩ := (OwnR.ofInts (F := F) ho5.ints.1 rfl ho5.ints.2).sl (fun k q => by have := hF k q; have := HR.out; omega)
      exact ⟨q, c, by rw [hv]; rfl, hs, hc.andThen hc5 (fun k q => .inr (by have := (ho.blk k q).1; have := HR.out; omega))⟩
    · have hok : o ∈ aKeys al := aKeys_mem.2 (by rw [hgo]; rfl)
      have hoI : I64 o := hkI o hok
      have hnd' : o ∉ done := fun q => hnd (List.mem_reverse.2 q)
      have hdn' : (done ++ [o]).Nodup := List.nodup_append.2 ⟨hdn, by simp, fun a ha b hb => by rw [List.mem_singleton.1 hb]; exact fun e => hnd' (e ▸ ha)⟩
      have hsub' : ∀ q ∈ done ++ [o], q ∈ aKeys al := fun q hq => (List.mem_append.1 hq).elim (hsub q) (fun e => by rw [List.mem_singleton.1 e]; exact hok)
      have hle := sub_length (done ++ [o]) (aKeys al) hdn' hsub'
      rw [aKeys_length, List.length_append, List.length_singleton] at hle
      obtain ⟨p, hp⟩ : ∃ p, pget L o = some p := by
        have := hg o
        rw [hgo] at this
        cases e : pget L o with
        | none => rw [e] at this; cases this
        | some p => exact ⟨p, rfl⟩
      have hvp : v = .int .i64 p := by have := hg o; rw [hgo, hp] at this; exact Option.some.inj this
      subst hvp
      obtain ⟨v', hv', hen⟩ := run_entry_al (P := Tryd.prog) hit4
      obtain rfl : v' = .int .i64 p := by rw [hgo] at hv'; exact (Option.some.inj hv').symm
      have hs4 := hch.size
      have ho4 : OwnR (intRp .i64) (r + 1) 3 No w4 u5 (done.filter fun k => decide (pget L k = some id)) := ho.asideT hch (fun q e z => by have := (ho.blk q e).1; have : q = r := z; omega)
      have hwr := HR.out
      have HWR := Lib.hid hwr
      have hc4 : Ch No w w4 := hc.andThen hch (fun q z => .inr (by have : q = r := z; omega))
      clear hwr
      by_cases hpid : p = id
      · have b1 : (p == id) = true := by simp [hpid]
        have hflt : (done ++ [o]).filter (fun k => decide (pget L k = some id)) = (done.filter fun k => decide (pget L k = some id)) ++ [o] := by rw [List.filter_append]; simp [hp, hpid]
        have HFL := Lib.hid hflt
        have HV := Lib.hid hv'
        clear hflt hv' hpid
        go_wp2_with (at_builtin; go_loud (refine wpL_push rfl _ _ _ rfl (r + 1) 3 (.int .i64 0) 1 8 Tryd.underlying28 infoIntT3 rfl (by decide) (intRp .i64) rfl No u5 _ rfl ho4 [.int .i64 o] _ o 1 (by go_simp) ⟨rfl, hoI⟩ (fun _ q => q.elim) (by omega) (by omega) (by omega) ?_); intro v9 w9 ho9 hg9 hk9)
        go_roundw
        case rel =>
          refine ⟨done ++ [o], by rw [HFL.out]; exact ho9, hdn', hsub', ?_, hg9 _ _ (by have := HWR.out; omega) hc4, by have := hk9.size; omega⟩
          rw [List.reverse_append]
          exact hit4.ch hk9 (fun q => by have := (ho4.blk _ q).1; omega) (fun q => by have := (ho4.blk _ q).1; have := HWR.out; omega)
        case measure =>
          rw [(hit4.ch hk9 (fun q => by have := (ho4.blk _ q).1; omega) (fun q => by have := (ho4.blk _ q).1; have := HWR.out; omega)).seen, hseen, List.length_cons, List.length_reverse]
          omega
      · have b1 : (p == id) = false := by simp [hpid]
        have hflt : (done ++ [o]).filter (fun k => decide (pget L k = some id)) = (done.filter fun k => decide (pget L k = some id)) := by rw [List.filter_append]; simp [hp, hpid]
        have HFL := Lib.hid hflt
        have HV := Lib.hid hv'
        clear hflt hv' hpid
        go_wp2_with fail
        go_roundw
        case rel =>
          refine ⟨done ++ [o], by rw [HFL.out]; exact ho4, hdn', hsub', ?_, hc4, by omega⟩
          rw [List.reverse_append]
          exact hit4
        case measure =>
          rw [hit4.seen, hseen, List.length_cons, List.length_reverse]
          omega
end Go.Proofs.YtinjbonodlkafaaDoor

/- Layer 4 (ids): All. -/
import Derived.Test.YtinjbonodlkafaaIds
import Derived.Test.YtinjbonodlkafaaRange
import Derived.Test.YtinjbonodlkafaaSort
import Derived.OwnWalk
set_option linter.unusedVariables false
set_option linter.unusedSimpArgs false
namespace Go.Proofs.Ytinjbonodlkafaa
open Go Go.RowKit

theorem infoInt : (Try.prog.info? 3).map (fun i => (i.zero, i.size, i.bytes)) = some (some (.int .i64 0), 1, 8) := by kernel_rfl

/-- An owned row of numbers, behind a step that leaves its block. -/
theorem OwnR.asideI {k : IntKind} {base : Nat} {T : TypeId} {w w' : World} {v : Value} {l : List Int} {G : Nat → Prop} (h : OwnR (intRp k) base T No w v l) (hc : Ch G w w') (hn : ∀ q, v.ownBlock = some q → ¬ G q) : OwnR (intRp k) base T No w' v l := by
  obtain ⟨xs, hown, hr⟩ := h
  refine ⟨xs, ⟨hown.1, ?_⟩, fun i hi => hr i hi⟩
  rcases hown.2 with hq | ⟨g, cap, cur, hv, hg, hh, rest⟩
  · exact .inl hq
  · exact .inr ⟨g, cap, cur, hv, hg, hc.heap hh (hn g (by rw [hv]; simp [Value.ownBlock])), rest⟩

/-- The keys, rising. -/
def keysOf (al : AL) : List Int := sorted (aKeys al)
theorem keysOf_length (al : AL) : (keysOf al).length = al.length := by rw [keysOf, sorted_length, aKeys_length]
/-- All keys, each once, in whichever order: sorted they are one list. -/
theorem keys_done {al : AL} {done : List Int} (hn : (aKeys al).Nodup) (hd : done.Nodup) (h1 : ∀ k ∈ done, k ∈ aKeys al) (h2 : ∀ k ∈ aKeys al, k ∈ done) : sorted done = keysOf al := by
  have hp : (sorted (aKeys al)).Pairwise (· < ·) := by
    have h := sorted_pairwise (aKeys al)
    have hq : (sorted (aKeys al)).Nodup := (sorted_perm _).nodup_iff.2 hn
    exact h.imp₂ (fun a b h h' => by have : a ≠ b := h'; omega) hq
  exact sorted_eq hd hp (fun x => ⟨fun h => mem_sorted.2 (h1 x h), fun h => h2 x (mem_sorted.1 h)⟩)

set_option maxRecDepth 100000 in
theorem ids_All (F : Nat → Prop) (w : World) (b m : Nat) (al : AL) (last most : Int) (h : BookAt w b m al last most) (hk : ∀ k ∈ aKeys al, I64 k) (hl : al.length ≤ 100000) (hF : ∀ k, F k → k < w.heap.size) :
    Calls Try.prog 19 #[.pointer (some ⟨b, 0, none⟩)] w fun e w' => ∃ q c, e = .returned (.slice q al.length c) ∧ SlR (intRp .i64) F w' q c (keysOf al) ∧ Ch No w w' := by
  have c0 := cellOf h.head 0 rfl
  have hlt := h.lt
  obtain ⟨w3, hrng, hit, hc3, hsz3⟩ := run_range_al (P := Try.prog) (t := 82) Try.underlying82 h.map
  go_enter Try.func19, Try.ntmps19
  go_wp2_with fail
  obtain ⟨r, hr⟩ : ∃ z, z = w.heap.size := ⟨_, rfl⟩
  simp only [← hr] at hit ⊢
  have hr3 : r < w3.heap.size := by omega
  have hc30 := hc3
  have HR := Lib.hid hr
  clear hc3 hsz3 hrng hr
  go_loopw [3] (fun v wq => ∃ done : List Int, OwnR (intRp .i64) (r + 1) 3 No wq v done ∧ done.Nodup ∧ (∀ q ∈ done, q ∈ aKeys al) ∧ IterAt wq r m al done.reverse ∧ Ch No w wq ∧ r < wq.heap.size) (fun _ wq => al.length - (wq.iterSeen r).size)
  case atStart => exact ⟨[], OwnR.nilR _ _ _ _ _, by simp, by simp, hit, hc30, hr3⟩
  case round =>
    clear hit
    obtain ⟨done, ho, hdn, hsub, hit, hc, hrr⟩ := hrel
    have hseen := hit.seen
    rw [List.length_reverse] at hseen
    rcases run_next_al (P := Try.prog) hit 0 with ⟨hall, hrun⟩ | ⟨o, v, w4, hg, hnd, hrun, hit4, hch, _⟩
    · have hfin := keys_done h.map.nodup hdn hsub (fun k hk => List.mem_reverse.1 (hall k hk))
      have hdl := sub_length done (aKeys al) hdn hsub
      rw [aKeys_length] at hdl
      have hso := sort_own wr (r + 1) u3 done ho (by omega)
      rw [hfin] at hso
      have HL := Lib.hid hfin
      have hlen : done.length = al.length := by have := congrArg List.length hfin; rw [sorted_length, keysOf_length] at this; exact this
      clear hall hfin
      go_wp2_with fail
      with_reducible refine hso.mono ?_
      rintro e w5 ⟨rfl, ho5, hc5⟩
      dsimp only
      go_wp2_with fail
      go_ret
      obtain ⟨q, c, hv, hs⟩ := (OwnR.ofInts (F := F) ho5.ints.1 rfl ho5.ints.2).sl (fun k q => by have := hF k q; have := HR.out; omega)
      rw [keysOf_length] at hv
      exact ⟨q, c, by rw [hv]; rfl, hs, hc.andThen hc5 (fun k q => .inr (by have := (ho.blk k q).1; have := HR.out; omega))⟩
    · have hok : o ∈ aKeys al := aKeys_mem.2 (by rw [hg]; rfl)
      have hoI : I64 o := hk o hok
      have hnd' : o ∉ done := fun q => hnd (List.mem_reverse.2 q)
      have hdn' : (done ++ [o]).Nodup := List.nodup_append.2 ⟨hdn, by simp, fun a ha b hb => by rw [List.mem_singleton.1 hb]; exact fun e => hnd' (e ▸ ha)⟩
      have hsub' : ∀ q ∈ done ++ [o], q ∈ aKeys al := fun q hq => (List.mem_append.1 hq).elim (hsub q) (fun e => by rw [List.mem_singleton.1 e]; exact hok)
      have hle := sub_length (done ++ [o]) (aKeys al) hdn' hsub'
      rw [aKeys_length, List.length_append, List.length_singleton] at hle
      obtain ⟨v', hv', hen⟩ := run_entry_al (P := Try.prog) hit4
      have hs4 := hch.size
      have ho4 : OwnR (intRp .i64) (r + 1) 3 No w4 u3 done := ho.asideI hch (fun q e z => by have := (ho.blk q e).1; have : q = r := z; omega)
      have hwr := HR.out
      have HWR := Lib.hid hwr
      have hc4 : Ch No w w4 := hc.andThen hch (fun q z => .inr (by have : q = r := z; omega))
      clear hwr
      go_wp2_with (at_builtin; go_loud (refine wpL_push rfl _ _ _ rfl (r + 1) 3 (.int .i64 0) 1 8 Try.underlying22 infoInt rfl (by decide) (intRp .i64) rfl No u3 done rfl ho4 [.int .i64 o] _ o 1 (by go_simp) ⟨rfl, hoI⟩ (fun _ q => q.elim) (by omega) (by omega) (by omega) ?_); intro v9 w9 ho9 hg9 hk9)
      go_roundw
      case rel =>
        refine ⟨done ++ [o], ho9, hdn', hsub', ?_, hg9 _ _ (by have := HWR.out; omega) hc4, by have := hk9.size; omega⟩
        rw [List.reverse_append]
        exact hit4.ch hk9 (fun q => by have := (ho4.blk _ q).1; omega) (fun q => by have := (ho4.blk _ q).1; have := HWR.out; omega)
      case measure =>
        rw [(hit4.ch hk9 (fun q => by have := (ho4.blk _ q).1; omega) (fun q => by have := (ho4.blk _ q).1; have := HWR.out; omega)).seen, hseen, List.length_cons, List.length_reverse]
        omega
end Go.Proofs.Ytinjbonodlkafaa

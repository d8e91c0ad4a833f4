/- slices.Sorted(maps.Keys(m)), of whole numbers. -/
import Derived.Test.YtdmhenanikkabaaDoorRange
import Derived.Test.YtdmhenanikkabaaDoorSort
import Derived.Test.YtdmhenanikkabaaDoorShelfK
set_option linter.unusedVariables false
set_option linter.unusedSimpArgs false
namespace Go.Proofs.YtdmhenanikkabaaDoor
open Go Go.RowKit Go.Maps Go.Sort Go.Shelf

/-- A map in memory, as the library's contracts know it. -/
theorem MapAt.owns {w : World} {m : Nat} {al : AL} (h : MapAt w m al) (hk : ∀ k ∈ aKeys al, I64 k) (hl : al.length ≤ maxLen) :
    w.ownsMap (H := Unit) Tryd.prog 3 (fun _ => some (.nil, [])) m al.length (.map ((al.map fun x => ((Lit.int .i64 x.1, DataW.nil) : Lit × DataW Unit)).foldr DataW.insert [])) := by
  obtain ⟨hn, es, clock, hh, hes, hb, hbn⟩ := h
  have hlen : es.size = al.length := by have := congrArg List.length hes; simpa using this
  have hkey : ∀ e ∈ es.toList, ∃ k, e.key = .int .i64 k ∧ I64 k := by
    intro e he
    have : (e.key, e.val) ∈ es.toList.map (fun e => (e.key, e.val)) := List.mem_map.2 ⟨e, he, rfl⟩
    rw [hes] at this
    obtain ⟨x, hx, hxe⟩ := List.mem_map.1 this
    exact ⟨x.1, (Prod.mk.inj hxe).1.symm, hk x.1 (List.mem_map.2 ⟨x, hx, rfl⟩)⟩
  have hrd : ∀ e : MapEntry, ∀ k, e.key = .int .i64 k → I64 k → WideElems.rd (H := Unit) Tryd.prog 3 (fun _ => some (.nil, [])) e = some (Lit.int .i64 k, .nil) := by
    intro e k he hk
    have hw : (Lit.int .i64 k).wf = true := by
      have := hk.bd
      simp only [Lit.wf, Bool.and_eq_true, decide_eq_true_eq]
      have e1 : IntKind.min .i64 = -9223372036854775808 := by decide
      have e2 : IntKind.max .i64 = 9223372036854775807 := by decide
      exact ⟨by rw [e1]; exact this.1, by rw [e2]; exact this.2⟩
    unfold WideElems.rd
    rw [he, keyOf_int_mk (q := .i64) (by kernel_rfl) hw]
    rfl
  have hmap : ∀ (l : List MapEntry) (a : AL), l.map (fun e => (e.key, e.val)) = a.map (fun x => (Value.int .i64 x.1, x.2)) → (∀ e ∈ l, ∃ k, e.key = .int .i64 k ∧ I64 k) → l.map (WideElems.rg (H := Unit) Tryd.prog 3 (fun _ => some (.nil, []))) = a.map fun x => (Lit.int .i64 x.1, DataW.nil) := by
    intro l
    induction l with
    | nil => intro a ha _; cases a with
      | nil => rfl
      | cons x r => simp at ha
    | cons e l ih =>
      intro a ha hke
      cases a with
      | nil => simp at ha
      | cons x r =>
        simp only [List.map_cons, List.cons.injEq, Prod.mk.injEq] at ha ⊢
        obtain ⟨k, h1, h2⟩ := hke e (by simp)
        obtain rfl : k = x.1 := by have := h1.symm.trans ha.1.1; simpa using this
        refine ⟨?_, ih r ha.2 (fun e he => hke e (List.mem_cons_of_mem _ he))⟩
        unfold WideElems.rg
        rw [hrd e _ h1 h2]
        rfl
  refine ⟨es, clock, hh, ⟨by omega, ⟨hb, hbn, ?_⟩, fun e he => ?_⟩, by omega, by rw [hmap _ _ hes hkey]⟩
  · have h1 : es.toList.map (·.key) = (aKeys al).map (fun k => Value.int .i64 k) := by
      have := congrArg (List.map Prod.fst) hes
      simpa [aKeys, Function.comp_def] using this
    rw [h1]
    exact List.Pairwise.map _ (fun a b hab e => hab (by simpa using e)) hn
  · obtain ⟨k, h1, h2⟩ := hkey e he
    exact ⟨_, hrd e k h1 h2⟩

theorem keys_perm {H : Type} (al : AL) : (intKeys (DataW.map ((al.map fun x => ((Lit.int .i64 x.1, DataW.nil) : Lit × DataW H)).foldr DataW.insert []))).Perm (aKeys al) := by
  refine ((WideShapes.sorted_perm _).map _).trans ?_
  rw [List.map_map]
  exact List.Perm.refl _

/-- slices.Sort's two contracts, at the fence that asks nothing. -/
theorem sortsK (m : Nat) : AnyZI.SortsIn Tryd.prog Tryd.sorted55_ren Fence.wide m :=
  ⟨fun blk off cap ss W hH hblk hsz => callsIn_wide.2 (Tryd.slices_Sort_int blk off cap ss W hH hblk hsz),
   fun p cap W => callsIn_wide.2 (Tryd.slices_Sort_int_none p cap W)⟩

theorem maps_Keys (w : World) (mb : Option Nat) :
    Calls Tryd.prog 24 #[.map mb] w fun e w' => e = .returned (.func (.func 30) #[] #[.pointer (some ⟨w.heap.size, 0, none⟩)]) ∧ w' = w.alloc (.cells #[.map mb] 54) :=
  (callsIn_wide (n := 6)).1 (AnyZI.keys_in Tryd.keys56 Fence.wide 6 trivial rfl mb w)

theorem slices_Sorted_keys (F : Nat → Prop) (w : World) (m : Nat) (al : AL) (h : MapAt w m al) (hk : ∀ k ∈ aKeys al, I64 k) (hl : al.length ≤ 100000) (hF : ∀ k, F k → k < w.heap.size) :
    Calls Tryd.prog 23 #[.func (.func 30) #[] #[.pointer (some ⟨w.heap.size, 0, none⟩)]] (w.alloc (.cells #[.map (some m)] 54)) fun e w' => ∃ q c, e = .returned (.slice q al.length c) ∧ SlR (intRp .i64) F w' q c (sorted (aKeys al)) ∧ Ch No w w' := by
  have hmx : al.length ≤ maxLen := by unfold maxLen; omega
  have hown := h.owns hk hmx
  obtain ⟨D, hD⟩ : ∃ z : DataW Unit, z = .map ((al.map fun x => ((Lit.int .i64 x.1, DataW.nil) : Lit × DataW Unit)).foldr DataW.insert []) := ⟨_, rfl⟩
  have hpm : (intKeys D).Perm (aKeys al) := by rw [hD]; exact keys_perm al
  have hsz : Maps.size D = al.length := by
    rw [hD]
    exact ((WideShapes.sorted_perm _).length_eq).trans (by simp)
  rw [← hD] at hown
  have hseq : SeqGives Fence.wide 3 Tryd.prog 30 #[.pointer (some ⟨w.heap.size, 0, none⟩)] encZ (fun ss => ss.Perm (intKeys D)) (Maps.size D) (w.alloc (.cells #[.map (some m)] 54)) :=
    AnyZI.keys_gives (ρ := Tryd.keys56_ren) { Tryd.keys56 with } Fence.wide _ trivial rfl (by omega) w.heap.size m al.length D _ (by simp) (by simp) (by
      have hbl := hown.lt
      obtain ⟨es, clock, hb, Ft, hs, hD⟩ := hown
      exact ⟨es, clock, (Below.heap_alloc _ _ m hbl).trans hb, Ft, hs, hD⟩)
  have cS := AnyZI.sorted_in Tryd.sorted55 Fence.wide 6 trivial trivial trivial trivial rfl (by omega) (sortsK _) (enters_of Tryd.func29 (by kernel_rfl) rfl) 30 #[.pointer (some ⟨w.heap.size, 0, none⟩)] trivial (enters_of Tryd.func30 (by kernel_rfl) rfl) _ _ (by rw [hsz]; exact hmx) (by rw [hsz]; omega) _ hseq
  refine ((callsIn_wide (n := 6)).1 cS).mono ?_
  rintro e w' ⟨v, ss, rfl, hS, hrow, _, hb⟩
  have hss : ss.Perm (aKeys al) := hS.trans hpm
  have hso : sorted ss = sorted (aKeys al) := mergeSort_of_perm_i hss
  have hlen : ss.length = al.length := by rw [hss.length_eq, aKeys_length]
  have ho : OwnR (intRp .i64) (w.heap.size + 1) 3 No w' v (sorted ss) := OwnR.ofInts (n := ss.length) (ownsRow_base hrow (by simp)) (sorted_length ss).symm (fun x hx => hk x (hss.mem_iff.1 (mem_sorted.1 hx)))
  obtain ⟨q, c, hv, hs⟩ := (OwnR.ofInts (F := F) ho.ints.1 rfl ho.ints.2).sl (fun k q => by have := hF k q; omega)
  refine ⟨q, c, by rw [hv, sorted_length, hlen], by rw [← hso]; exact hs, ?_⟩
  have hc0 : Ch No w (w.alloc (.cells #[.map (some m)] 54)) := (Ch.refl _ _).alloc _
  exact hc0.trans (Ch.ofBelow hb)
end Go.Proofs.YtdmhenanikkabaaDoor

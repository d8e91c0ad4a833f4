/- How arguments that can be read as data are read by this session's words ('Opens'), and the frame of a law's row. No program text but the types' numbers of the table. -/
import Derived.Test.YtdmhenanikkabaaDoorKit
import Derived.ProofKit
import Derived.OpenShut
import Derived.Deep.Slices
import Derived.SizedLaws
import Derived.Below
set_option linter.unusedVariables false
set_option linter.unusedSimpArgs false
namespace Go.Proofs.YtdmhenanikkabaaDoor
open Go Go.RowKit

/-- Whatever can be read as data of type t is an α by e. -/
def Opens {α : Type} (P : Program) (t : TypeId) (e : Rp α) : Prop :=
  P.cellsOf t = e.n ∧ ∀ {H : Type} {enc : TypeId × Value → H} {w : World} {base : Nat} {spare : Nat → Bool} {held : Bool} {fuel : Nat} {cs : List Value} {x : DataW H × List MemPlace},
    DataW.trod enc P w base spare held fuel t cs = some x → ∃ y, e.R No w cs y

theorem Opens.int {P : Program} {t : TypeId} {k : IntKind} (hu : P.underlying t = some (.int k)) (hc : P.cellsOf t = 1) : Opens P t (intRp k) :=
  ⟨hc, fun h => by obtain ⟨n, rfl, _, hw⟩ := DataW.trod_int hu h; exact ⟨n, rfl, InK.ofWf hw⟩⟩
theorem Opens.bool {P : Program} {t : TypeId} (hu : P.underlying t = some .bool) (hc : P.cellsOf t = 1) : Opens P t boolRp :=
  ⟨hc, fun h => by obtain ⟨n, rfl, _⟩ := DataW.trod_bool hu h; exact ⟨n, rfl, trivial⟩⟩

/-- A string. -/
def strRp : Rp ByteArray := flat 1 (fun x => [.string x]) (fun _ => rfl) (by intro x u hu; simp at hu; subst hu; rfl) (fun x => x.size ≤ 9223372036854775807)
theorem Opens.str {P : Program} {t : TypeId} (hu : P.underlying t = some .string) (hc : P.cellsOf t = 1) : Opens P t strRp :=
  ⟨hc, fun h => by obtain ⟨n, rfl, _, hw⟩ := DataW.trod_string hu h; exact ⟨n, rfl, hw⟩⟩

theorem Opens.imp {α β : Type} {P : Program} {t : TypeId} {e : Rp α} {e' : Rp β} (h : Opens P t e) (hn : e'.n = e.n) (f : ∀ w cs y, e.R No w cs y → ∃ z, e'.R No w cs z) : Opens P t e' :=
  ⟨by rw [hn]; exact h.1, fun hx => by obtain ⟨y, hy⟩ := h.2 hx; exact f _ _ _ hy⟩

theorem add_plain' (g o j : Nat) : (⟨g, o, none⟩ : Addr).add j = ⟨g, o + j, none⟩ := by unfold Addr.add; split <;> simp_all

theorem spot_none {w : World} {a : Addr} {v : Value} (h : w.cell? a = some v) : a = ⟨a.block, a.off, none⟩ := by
  unfold World.cell? at h
  split at h
  · cases hs : a.spot with
    | none => cases a; simp_all
    | some s => simp [hs] at h
  · simp at h

theorem Opens.slice {α : Type} {P : Program} {t t' : TypeId} {e : Rp α} (hu : P.underlying t = some (.slice t')) (hc : P.cellsOf t = 1) (h : Opens P t' e) (hpos : 0 < e.n) : Opens P t (slRp e) := by
  refine ⟨hc, fun {H enc w base spare held fuel cs x} hx => ?_⟩
  rcases Go.Deep.open_slice hu hx with ⟨rfl, _⟩ | ⟨a, len, cap, m, n, D, Pl, rfl, hb, hl, hm, hmm, hxx, hel⟩
  · exact ⟨[], none, 0, rfl, SlR.nilR _ _ _⟩
  have hle : len ≤ m := by rw [hmm]; split <;> omega
  have elem : ∀ i, i < len → ∃ y : α, ∃ es, (∀ j u, es[j]? = some u → w.cell? ((a.add (i * e.n)).add j) = some u) ∧ e.R No w es y := by
    intro i hi
    obtain ⟨cs', h1, h2⟩ := hel i (by omega)
    obtain ⟨y, hy⟩ := h.2 h2
    obtain ⟨_, hlen, hcell⟩ := World.cells?_some h1
    refine ⟨y, cs', fun j u hj => ?_, hy⟩
    have hj' : j < P.cellsOf t' := by have := (List.getElem?_eq_some_iff.1 hj).1; omega
    rw [← h.1, hcell j hj', hj]
  have hex : ∃ l : List α, l.length = len ∧ ∀ i, ∀ hi : i < l.length, ∃ es, (∀ j u, es[j]? = some u → w.cell? ((a.add (i * e.n)).add j) = some u) ∧ e.R No w es l[i] := by
    clear hel hmm hle hl hx hxx
    induction len with
    | zero => exact ⟨[], rfl, fun i hi => absurd hi (by simp)⟩
    | succ len ih =>
      obtain ⟨l, h1, h2⟩ := ih (fun i hi => elem i (by omega))
      obtain ⟨y, es, h3, h4⟩ := elem len (by omega)
      refine ⟨l ++ [y], by simp [h1], fun i hi => ?_⟩
      by_cases hlt : i < l.length
      · rw [List.getElem_append_left hlt]; exact h2 i hlt
      · obtain rfl : i = l.length := by simp at hi; omega
        simp only [List.getElem_concat_length]
        rw [h1]
        exact ⟨es, h3, h4⟩
  obtain ⟨l, hlen, hr⟩ := hex
  refine ⟨l, some a, cap, by rw [hlen], ⟨by omega, hm, fun h => by simp at h, fun hne => ?_⟩⟩
  have hpos' : 0 < l.length := List.length_pos_iff.2 hne
  obtain ⟨es, hc0, hR0⟩ := hr 0 hpos'
  have hes := e.len hR0
  have h00 := hc0 0 es[0] (by simp)
  have hsp : a = ⟨a.block, a.off, none⟩ := by
    simp only [Nat.zero_mul, Addr.add] at h00
    exact spot_none (by simpa using h00)
  have hblk : a.block < w.heap.size := by
    have := World.block_lt_of_cell? w _ h00
    rw [hsp] at this
    simpa [add_plain'] using this
  refine ⟨a.block, a.off, by rw [← hsp], fun q => q, hblk, fun i hi => ?_⟩
  obtain ⟨es, h1, h2⟩ := hr i hi
  refine ⟨es, fun j u hj => ?_, h2⟩
  have := h1 j u hj
  rw [hsp] at this
  simpa [add_plain'] using this

/-- Two things, one behind the other. -/
def prodRp {α β : Type} (a : Rp α) (b : Rp β) : Rp (α × β) where
  n := a.n + b.n
  R F w cs x := ∃ c1 c2, cs = c1 ++ c2 ∧ a.R F w c1 x.1 ∧ b.R F w c2 x.2
  len := by rintro F w cs x ⟨c1, c2, rfl, h1, h2⟩; rw [List.length_append, a.len h1, b.len h2]
  one := by
    rintro F w cs x ⟨c1, c2, rfl, h1, h2⟩ u hu
    rcases List.mem_append.1 hu with hu | hu
    · exact a.one h1 u hu
    · exact b.one h2 u hu
  tr := by rintro F F' w w' cs x ⟨c1, c2, rfl, h1, h2⟩ hk hs hf; exact ⟨c1, c2, rfl, a.tr h1 hk hs hf, b.tr h2 hk hs hf⟩

/-- The fields from the i-th on, from cell off on. -/
structure OpensAt {α : Type} (P : Program) (ts : List (TypeId × Nat)) (i : Nat) (off : Nat) (e : Rp α) : Prop where
  out : ∀ {H : Type} {enc : TypeId × Value → H} {w : World} {base : Nat} {spare : Nat → Bool} {held : Bool} {fuel : Nat} {cs : List Value}, off + e.n ≤ cs.length →
    (∀ (j : Nat) (t : TypeId) (o : Nat), ts[j]? = some (t, o) → ∃ x, DataW.trod enc P w base spare held fuel t ((cs.drop o).take (P.cellsOf t)) = some x) → ∃ y, e.R No w ((cs.drop off).take e.n) y

theorem OpensAt.last {α : Type} {P : Program} {ts : List (TypeId × Nat)} {i off : Nat} {t : TypeId} {e : Rp α} (hi : ts[i]? = some (t, off)) (h : Opens P t e) : OpensAt P ts i off e := by
  refine ⟨fun {H enc w base spare held fuel cs} hl hx => ?_⟩
  obtain ⟨x, hx⟩ := hx i t off hi
  rw [h.1] at hx
  exact h.2 hx
theorem OpensAt.cons {α β : Type} {P : Program} {ts : List (TypeId × Nat)} {i off : Nat} {t : TypeId} {e : Rp α} {e' : Rp β} (hi : ts[i]? = some (t, off)) (h : Opens P t e) (h' : OpensAt P ts (i + 1) (off + e.n) e') : OpensAt P ts i off (prodRp e e') := by
  refine ⟨fun {H enc w base spare held fuel cs} hl hx => ?_⟩
  obtain ⟨x, hx0⟩ := hx i t off hi
  rw [h.1] at hx0
  obtain ⟨y, hy⟩ := h.2 hx0
  simp only [prodRp] at hl
  obtain ⟨z, hz⟩ := h'.out (enc := enc) (by omega) hx
  refine ⟨(y, z), _, _, ?_, hy, hz⟩
  simp only [prodRp]
  rw [List.take_add, List.drop_drop]

theorem Opens.struct {α : Type} {P : Program} {t : TypeId} {fs : Array Field} {e : Rp α} (hu : P.underlying t = some (.struct fs)) (hc : P.cellsOf t = e.n) (h : OpensAt P (fs.toList.map fun f => (f.type, f.offset)) 0 0 e) : Opens P t e := by
  refine ⟨hc, fun {H enc w base spare held fuel cs x} hx => ?_⟩
  obtain ⟨xs, n, _, _, hlen, hsz, hf⟩ := DataW.trod_struct hu hx
  obtain ⟨y, hy⟩ := h.out (enc := enc) (w := w) (base := base) (spare := spare) (held := held) (fuel := n) (cs := cs) (by omega) (fun j t o hj => by
    rw [List.getElem?_map] at hj
    obtain ⟨f, hf1, hf2⟩ := Option.map_eq_some_iff.1 hj
    cases hf2
    have h3 := hf j f (by simpa using hf1)
    have h4 : j < fs.size := by have := (List.getElem?_eq_some_iff.1 hf1).1; simpa using this
    rw [h3, List.getElem?_eq_getElem (by omega)]
    exact ⟨_, rfl⟩)
  refine ⟨y, ?_⟩
  rw [List.drop_zero, List.take_of_length_le (by omega)] at hy
  exact hy

theorem Opens.array {α : Type} {P : Program} {t t' : TypeId} {n : Nat} {e : Rp α} (hu : P.underlying t = some (.array n t')) (hc : P.cellsOf t = e.n) (h : OpensAt P ((List.range n).map fun i => (t', i * P.cellsOf t')) 0 0 e) : Opens P t e := by
  refine ⟨hc, fun {H enc w base spare held fuel cs x} hx => ?_⟩
  obtain ⟨xs, m, _, _, hlen, hsz, hf⟩ := DataW.trod_array hu hx
  obtain ⟨y, hy⟩ := h.out (enc := enc) (w := w) (base := base) (spare := spare) (held := held) (fuel := m) (cs := cs) (by omega) (fun j t o hj => by
    rw [List.getElem?_map] at hj
    obtain ⟨f, hf1, hf2⟩ := Option.map_eq_some_iff.1 hj
    cases hf2
    have h4 : j < n := by have := (List.getElem?_eq_some_iff.1 hf1).1; simpa using this
    have h5 : f = j := by rw [List.getElem?_range h4] at hf1; exact (Option.some.inj hf1).symm
    subst h5
    have h3 := hf f h4
    rw [h3, List.getElem?_eq_getElem (by omega)]
    exact ⟨_, rfl⟩)
  refine ⟨y, ?_⟩
  rw [List.drop_zero, List.take_of_length_le (by omega)] at hy
  exact hy

/-- An argument of a row, opened. -/
theorem Opens.arg {α : Type} {P : Program} {t : TypeId} {e : Rp α} (h : Opens P t e) {H : Type} {enc : TypeId × Value → H} {w : World} {base : Nat} {spare : Nat → Bool} {held : Bool} {v : Value} {d : DataW H} {ps : List MemPlace}
    (hx : DataW.Trod enc P w base spare held t v d ps) : ∃ y, e.R No w v.cells.toList y := by
  obtain ⟨fuel, hf⟩ := hx
  exact h.2 hf

end Go.Proofs.YtdmhenanikkabaaDoor

/- The frame of a law's row: from 'the call returns true and turns nothing that was there' to the row. No program text. -/
import Derived.Test.YtdmhenanikkabaaDoorOpen
set_option linter.unusedVariables false
set_option linter.unusedSimpArgs false
namespace Go.Proofs.YtdmhenanikkabaaDoor
open Go Go.RowKit Go.ChangeShapes Go.WideShapes

theorem trodAll_length {H : Type} {enc : TypeId × Value → H} {P : Program} {w : World} {base : Nat} {spare : Nat → Bool} {held : Bool} : ∀ {ts : List TypeId} {vs : List Value} {ds : List (DataW H)} {ps : List MemPlace},
    DataW.TrodAll enc P w base spare held ts vs ds ps → ds.length = ts.length
  | [], [], [], _, _ => rfl
  | t :: ts, v :: vs, d :: ds, _, h => by obtain ⟨p, q, _, h2, _⟩ := h; simp [trodAll_length h2]

theorem trodAll_stays {H : Type} {enc : TypeId × Value → H} {P : Program} (hl : laidOutB P = true) {W W' : World} (hb : Below W.heap.size W W') : ∀ {ts : List TypeId} {vs : List Value} {ds : List (DataW H)} {ps : List MemPlace},
    (∀ t ∈ ts, P.readableRec t = true ∧ t < P.types.size) → DataW.TrodAll enc P W 0 (fun _ => true) true ts vs ds ps → DataW.TrodAll enc P W' 0 (fun b => decide (b < W.heap.size)) true ts vs ds ps
  | [], [], [], _, _, h => h
  | t :: ts, v :: vs, d :: ds, _, hr, h => by
    obtain ⟨p, q, h1, h2, e⟩ := h
    have hlt : ∀ x ∈ p, x.block < W.heap.size := by obtain ⟨m, hm⟩ := h1; exact DataW.trod_lt m _ _ _ hm
    exact ⟨p, q, Below.trod hl (hr t (by simp)).1 (hr t (by simp)).2 h1 hb hlt, trodAll_stays hl hb (fun t ht => hr t (by simp [ht])) h2, e⟩

theorem law_row {C : Checked} {os : Os} {H : Type} {enc : TypeId × Value → H} {f : FuncId} {fn : Func} {s : ChangeSpec} {tb : TypeId}
    (own : ownKnob C.prog.godebug = none) (started : os.Started) (noInit : C.prog.inits.idxOf? f = none) (hfn : C.prog.funcs[f]? = some fn)
    (witness : ∃ (w : World) (tape : Tape) (i : Input), w.os = os ∧ (w.forCall tape i).Shaped C.prog ∧ i.vars = [] ∧ Input.okWide C.prog (w.forCall tape i) .any w.heap.size f i ∧
      s.pre6 enc C.prog fn [] false (w.forCall tape i).memory i.args ∧ ({} : Assume).holds C.prog (lone (Frame.enter C.prog f i.args .normal) [] (w.forCall tape i)))
    (laid : laidOutB C.prog = true) (hty : (fn.params.toList.all fun t => C.prog.readableRec t && decide (t < C.prog.types.size)) = true)
    (hres : fn.resultTypes = #[tb]) (hbool : C.prog.underlying tb = some .bool) (hvars : s.vars = [])
    (hs : ∀ ds : List (DataW H), ds.length = fn.params.toList.length → s.fn H ds = { results := [.lit (.bool true)], args := ds })
    (walk : ∀ (W : World) (base : Nat) (args : Array Value) (ds : List (DataW H)) (p : List MemPlace),
      (∀ (j : Nat) t v, fn.params[j]? = some t → args[j]? = some v → Value.okWide C.prog W .any base t v) →
      DataW.TrodAll enc C.prog W 0 (fun _ => true) true fn.params.toList args.toList ds p →
      (DataW.weightsEach C.prog fn.params.toList ds).all (· ≤ reachBytes) = true →
      Calls C.prog f args W fun e W' => e = .returned (.bool true) ∧ Ch No W W') :
    ReturnsInHanded {} C os f .any (s.pre6 enc C.prog fn [] false) (s.post enc C.prog fn false true false false) := by
  refine returnsInHanded_of_change_sized (C := C) own started noInit hfn witness ?_
  intro W base args ds gs before hval hW hcnd hsz0 _
  have hW' := hW
  obtain ⟨p, q, hA, hV, rfl, hfz, hnd⟩ := hW
  rw [hvars] at hV
  obtain ⟨rfl, rfl⟩ := trodVars_none hV
  have hvt : s.plain.varTypes C.prog = [] := by simp [DataSpec.varTypes, ChangeSpec.plain, hvars]
  rw [hvt, List.append_nil, List.append_nil] at hsz0
  refine (walk W base args ds p hval hA hsz0).mono fun e W' ⟨he, hch⟩ => ⟨_, he, ?_⟩
  have bel := hch.below
  have hlen := trodAll_length hA
  have hr : ∀ t ∈ fn.params.toList, C.prog.readableRec t = true ∧ t < C.prog.types.size := by
    intro t ht
    have := List.all_eq_true.1 hty t ht
    simpa using this
  have hfn' := hs (ds ++ []) (by rw [List.append_nil]; exact hlen)
  refine ⟨ds, [], _, [], p, [], hW', ?_, ?_, ?_, bel.frame _, fun h => by cases h⟩
  · rw [hfn', hres]
    exact ⟨[], [], shut_bool hbool _, rfl, rfl⟩
  · rw [hfn', List.append_nil]
    exact trodAll_stays laid bel hr hA
  · rw [hfn', hvars]
    exact (rfl : ([] : List MemPlace) = [])

/-! ### The outer form of an argument -/

theorem one_int {P : Program} {w : World} {base : Nat} {t : TypeId} {k : IntKind} {v u : Value} (hu : P.underlying t = some (.int k)) (hv : Value.okWide P w .any base t v) (h : v.cells.toList = [u]) : v = u := by
  simp only [Value.okWide, hu, Cell.okWide] at hv
  cases v <;> simp_all [Value.cells, Cell.ok]
theorem one_bool {P : Program} {w : World} {base : Nat} {t : TypeId} {v u : Value} (hu : P.underlying t = some .bool) (hv : Value.okWide P w .any base t v) (h : v.cells.toList = [u]) : v = u := by
  simp only [Value.okWide, hu, Cell.okWide] at hv
  cases v <;> simp_all [Value.cells, Cell.ok]
theorem one_string {P : Program} {w : World} {base : Nat} {t : TypeId} {v u : Value} (hu : P.underlying t = some .string) (hv : Value.okWide P w .any base t v) (h : v.cells.toList = [u]) : v = u := by
  simp only [Value.okWide, hu, Cell.okWide] at hv
  cases v <;> simp_all [Value.cells, Cell.ok]
theorem one_slice {P : Program} {w : World} {base : Nat} {t e : TypeId} {v u : Value} (hu : P.underlying t = some (.slice e)) (hv : Value.okWide P w .any base t v) (h : v.cells.toList = [u]) : v = u := by
  obtain ⟨a, n, c, rfl⟩ := okWide_slice hu hv
  simpa [Value.cells] using h
theorem agg_struct {P : Program} {w : World} {base : Nat} {t : TypeId} {fs : Array Field} {v : Value} {us : List Value} (hu : P.underlying t = some (.struct fs)) (hv : Value.okWide P w .any base t v) (h : v.cells.toList = us) : v = .agg us.toArray := by
  simp only [Value.okWide, hu] at hv
  obtain ⟨cs, rfl, _⟩ := hv
  subst h
  simp [Value.cells]
theorem agg_array {P : Program} {w : World} {base : Nat} {t e : TypeId} {n : Nat} {v : Value} {us : List Value} (hu : P.underlying t = some (.array n e)) (hv : Value.okWide P w .any base t v) (h : v.cells.toList = us) : v = .agg us.toArray := by
  simp only [Value.okWide, hu] at hv
  obtain ⟨cs, rfl, _⟩ := hv
  subst h
  simp [Value.cells]
end Go.Proofs.YtdmhenanikkabaaDoor

/- Layer 18 (sweep): objects as they are read; what the counts are, in plain Lean. -/
import Derived.Test.YtdmhenanikkabaaDoorTallyPure2
set_option linter.unusedVariables false
set_option linter.unusedSimpArgs false
namespace Go.Proofs.YtdmhenanikkabaaDoor
open Go Go.RowKit

structure Ob where
  at_ : Int
  reg : Int
  arr : Bool
  hk : Int
  ht : Int
  hn : Int
  ka : Option Addr
  kc : Nat
  va : Option Addr
  vc : Nat
  kinds : List Int
  vals : List Int
def Ob.cells (o : Ob) : List Value := [.int .i64 o.at_, .int .i64 o.reg, .bool o.arr, .int .i64 o.hk, .int .i64 o.ht, .int .i64 o.hn, .slice o.ka o.kinds.length o.kc, .slice o.va o.vals.length o.vc]
def objRp : Rp Ob where
  n := 8
  R F w cs o := cs = o.cells ∧ I64 o.at_ ∧ I64 o.reg ∧ SlR (intRp .i64) F w o.ka o.kc o.kinds ∧ SlR (intRp .u64) F w o.va o.vc o.vals
  len := by rintro F w cs o ⟨rfl, _⟩; rfl
  one := by
    rintro F w cs o ⟨rfl, _⟩ u hu
    simp only [Ob.cells, List.mem_cons, List.not_mem_nil, or_false] at hu
    rcases hu with rfl | rfl | rfl | rfl | rfl | rfl | rfl | rfl <;> rfl
  tr := by
    rintro F F' w w' cs o ⟨h1, h2, h3, h4, h5⟩ hk hs hf
    exact ⟨h1, h2, h3, h4.tr hk hs hf, h5.tr hk hs hf⟩
theorem SlR.obj_at {F : Nat → Prop} {w : World} {a : Option Addr} {c : Nat} {l : List Ob} (h : SlR objRp F w a c l) (i : Nat) (hi : i < l.length) :
    ∃ b off, a = some ⟨b, off, none⟩ ∧ ¬ F b ∧ b < w.heap.size ∧ (∀ j v, l[i].cells[j]? = some v → w.cell? ⟨b, off + i * 8 + j, none⟩ = some v) ∧ I64 l[i].at_ ∧ I64 l[i].reg ∧ SlR (intRp .i64) F w l[i].ka l[i].kc l[i].kinds ∧ SlR (intRp .u64) F w l[i].va l[i].vc l[i].vals := by
  obtain ⟨b, off, ha, hb, hlt, es, hc, he, h1, h2, h3, h4⟩ := h.at_ i hi
  subst he
  exact ⟨b, off, ha, hb, hlt, hc, h1, h2, h3, h4⟩

/-! ### Plain -/
def hit (v : Int) (o : Ob) : Bool := decide (0 ≤ o.at_) && decide (o.at_ = v)
/-- The region that a word points to. -/
def tgt (l : List Ob) (v : Int) : Int := if v = 0 then 0 else match l.find? (hit v) with
  | none => 0
  | some o => max o.reg 0
def lk (l : List Ob) (reg : Int) (x : Int × Int) : List (Int × Int) := if x.1 = 1 ∧ tgt l x.2 ≠ 0 ∧ tgt l x.2 ≠ reg then [(reg, tgt l x.2)] else []
def oLinks (l : List Ob) (o : Ob) : List (Int × Int) := (o.kinds.zip o.vals).flatMap (lk l o.reg)
def links (l : List Ob) : List (Int × Int) := l.flatMap (oLinks l)

theorem find_here {p : Ob → Bool} : ∀ {l : List Ob} {i : Nat} (h : i < l.length), p l[i] = true → (∀ j, ∀ hj : j < l.length, j < i → p l[j] = false) → l.find? p = some l[i]
  | x :: r, 0, _, h1, _ => by simp only [List.getElem_cons_zero] at h1 ⊢; rw [List.find?_cons, h1]
  | x :: r, i + 1, hi, h1, h2 => by
    have h0 := h2 0 (by simp) (by omega)
    simp only [List.getElem_cons_zero] at h0
    rw [List.find?_cons, h0]
    simp only [List.getElem_cons_succ] at h1 ⊢
    exact find_here (by simpa using hi) h1 (fun j hj hji => by
      have := h2 (j + 1) (by simpa using hj) (by omega)
      simpa using this)
theorem tgt_some {l : List Ob} {v : Int} {o : Ob} (hv : v ≠ 0) (h : l.find? (hit v) = some o) : tgt l v = max o.reg 0 := by unfold tgt; rw [if_neg hv, h]
theorem tgt_none {l : List Ob} {v : Int} (h : ∀ o ∈ l, hit v o = false) : tgt l v = 0 := by
  unfold tgt
  split
  · rfl
  · rw [List.find?_eq_none.2 (fun o ho => by rw [h o ho]; simp)]
theorem tgt_zero (l : List Ob) : tgt l 0 = 0 := by unfold tgt; rw [if_pos rfl]
theorem tgt_bd {l : List Ob} (h : ∀ o ∈ l, I64 o.reg) (v : Int) : 0 ≤ tgt l v ∧ tgt l v ≤ 9223372036854775807 := by
  unfold tgt
  split
  · omega
  · split
    · omega
    · rename_i o ho
      have h1 : -9223372036854775808 ≤ o.reg ∧ o.reg ≤ 9223372036854775807 := h o (List.mem_of_find?_eq_some ho)
      omega
theorem lk_length (l : List Ob) (r : Int) (x : Int × Int) : (lk l r x).length ≤ 1 := by unfold lk; split <;> simp
theorem mem_links {l : List Ob} {x : Int × Int} (h : x ∈ links l) : x.2 ≠ 0 ∧ x.2 ≠ x.1 := by
  obtain ⟨o, _, h2⟩ := List.mem_flatMap.1 h
  obtain ⟨y, _, h3⟩ := List.mem_flatMap.1 h2
  unfold lk at h3
  split at h3
  · rename_i e
    rw [List.mem_singleton.1 h3]
    exact e.2
  · simp at h3

/-- Counted one by one. -/
def tally (L : List Int) : Rows := L.foldl (fun T x => (tAdd T x 1).1) []
def outs (l : List Ob) (r : Int) : List Int := ((links l).filter fun x => decide (x.1 = r)).map (·.2)
def ins_ (l : List Ob) (rs : List Int) : List Int := (links l).map (·.2) ++ (rs.map (tgt l)).filter fun t => decide (t > 0)

theorem tAdd_one {T : Rows} (h : Rising T) {k : Int} (hk : 1 ≤ k ∧ k ≤ 9223372036854775807) (hc : cnt T k < 2147483647) : tAdd T k 1 = (rset T k (cnt T k + 1), 0) ∧ Rising (tAdd T k 1).1 ∧ ∀ q, cnt (tAdd T k 1).1 q = cnt T q + (if q = k then 1 else 0) := by
  have hb := cnt_bd h k
  have he : tAdd T k 1 = (rset T k (cnt T k + 1), 0) := by unfold tAdd; rw [if_neg (by omega), if_neg (by omega)]
  refine ⟨he, h.add hk.2, fun q => ?_⟩
  rw [he]
  simp only
  rw [cnt_set h]
  by_cases e : q = k
  · rw [if_pos e, if_pos e, e]
  · rw [if_neg e, if_neg e]; omega
theorem tallyF : ∀ (L : List Int) (T : Rows), Rising T → (∀ k ∈ L, 1 ≤ k ∧ k ≤ 9223372036854775807) → (∀ q, cnt T q + L.length ≤ 2147483647) → Rising (L.foldl (fun T x => (tAdd T x 1).1) T) ∧ ∀ q, cnt (L.foldl (fun T x => (tAdd T x 1).1) T) q = cnt T q + (L.count q : Nat)
  | [], T, h, _, _ => ⟨h, fun q => by simp⟩
  | k :: r, T, h, hk, hl => by
    have hl' : ∀ q, cnt T q + ((r.length : Nat) + 1 : Int) ≤ 2147483647 := fun q => by have := hl q; simpa using this
    obtain ⟨_, h1, h2⟩ := tAdd_one h (hk k (by simp)) (by have := hl' k; omega)
    obtain ⟨h3, h4⟩ := tallyF r _ h1 (fun x hx => hk x (List.mem_cons_of_mem _ hx)) (fun q => by rw [h2]; have := hl' q; split <;> omega)
    refine ⟨h3, fun q => ?_⟩
    rw [List.foldl_cons, h4, h2, List.count_cons]
    by_cases e : q = k
    · rw [if_pos e, if_pos (by simp [e])]; push_cast; omega
    · rw [if_neg e, if_neg (by simp; exact fun z => e z.symm)]; push_cast; omega
theorem tally_of {L : List Int} (hk : ∀ k ∈ L, 1 ≤ k ∧ k ≤ 9223372036854775807) (hl : L.length ≤ 100000) : Rising (tally L) ∧ ∀ q, cnt (tally L) q = (L.count q : Nat) := by
  obtain ⟨h1, h2⟩ := tallyF L [] Rising.nil hk (fun q => by simp [cnt]; omega)
  exact ⟨h1, fun q => by have := h2 q; simp only [cnt] at this; unfold tally; omega⟩
theorem tally_snoc (L : List Int) (x : Int) : tally (L ++ [x]) = (tAdd (tally L) x 1).1 := by unfold tally; rw [List.foldl_append]; rfl
theorem tally_length : ∀ (L : List Int) (T : Rows), (L.foldl (fun T x => (tAdd T x 1).1) T).length ≤ T.length + L.length
  | [], T => by simp
  | k :: r, T => by
    have h1 := tally_length r (tAdd T k 1).1
    have h2 := tAdd_length T k 1
    rw [List.foldl_cons, List.length_cons]
    omega
theorem tally_len (L : List Int) : (tally L).length ≤ L.length := by have := tally_length L []; simpa [tally] using this

/-- Not more than are gone through. -/
structure Fits (l : List Ob) : Prop where
  n : l.length ≤ 60
  k : ∀ o ∈ l, o.kinds.length ≤ 40 ∧ o.vals.length ≤ 40
  r : ∀ o ∈ l, I64 o.reg
theorem flat_bd {α β : Type} {f : α → List β} {m : Nat} : ∀ {l : List α}, (∀ x ∈ l, (f x).length ≤ m) → (l.flatMap f).length ≤ m * l.length
  | [], _ => by simp
  | x :: r, h => by
    have h1 := h x (by simp)
    have h2 := flat_bd (l := r) (fun y hy => h y (List.mem_cons_of_mem _ hy))
    rw [List.flatMap_cons, List.length_append, List.length_cons, Nat.mul_add, Nat.mul_one]
    omega
theorem links_len {l : List Ob} (h : Fits l) : (links l).length ≤ 2400 := by
  have := flat_bd (f := oLinks l) (m := 40) (l := l) (fun o ho => by
    have h1 := flat_bd (f := lk l o.reg) (m := 1) (l := o.kinds.zip o.vals) (fun x _ => lk_length l o.reg x)
    have h2 := (h.k o ho).1
    rw [List.length_zip] at h1
    unfold oLinks
    omega)
  have h2 := h.n
  unfold links
  omega
theorem links_tgt {l : List Ob} (h : Fits l) {x : Int × Int} (hx : x ∈ links l) : 1 ≤ x.2 ∧ x.2 ≤ 9223372036854775807 := by
  have h0 := mem_links hx
  obtain ⟨o, _, h2⟩ := List.mem_flatMap.1 hx
  obtain ⟨y, _, h3⟩ := List.mem_flatMap.1 h2
  unfold lk at h3
  split at h3
  · have := tgt_bd h.r y.2
    rw [List.mem_singleton.1 h3] at h0 ⊢
    simp only at h0 ⊢
    omega
  · simp at h3
theorem outs_ok {l : List Ob} (h : Fits l) (r : Int) : (∀ k ∈ outs l r, 1 ≤ k ∧ k ≤ 9223372036854775807) ∧ (outs l r).length ≤ 2400 := by
  refine ⟨fun k hk => ?_, ?_⟩
  · obtain ⟨x, hx, rfl⟩ := List.mem_map.1 hk
    exact links_tgt h (List.mem_filter.1 hx).1
  · have h1 := List.length_filter_le (fun x : Int × Int => decide (x.1 = r)) (links l)
    have h2 := links_len h
    unfold outs
    rw [List.length_map]
    omega
theorem ins_ok {l : List Ob} (h : Fits l) (rs : List Int) (hr : rs.length ≤ 60) : (∀ k ∈ ins_ l rs, 1 ≤ k ∧ k ≤ 9223372036854775807) ∧ (ins_ l rs).length ≤ 2460 := by
  refine ⟨fun k hk => ?_, ?_⟩
  · rcases List.mem_append.1 hk with hk | hk
    · obtain ⟨x, hx, rfl⟩ := List.mem_map.1 hk
      exact links_tgt h hx
    · obtain ⟨h1, h2⟩ := List.mem_filter.1 hk
      obtain ⟨v, _, rfl⟩ := List.mem_map.1 h1
      have := tgt_bd h.r v
      simp at h2
      omega
  · have h1 := List.length_filter_le (fun t : Int => decide (t > 0)) (rs.map (tgt l))
    have h2 := links_len h
    unfold ins_
    rw [List.length_append, List.length_map]
    rw [List.length_map] at h1
    omega
end Go.Proofs.YtdmhenanikkabaaDoor

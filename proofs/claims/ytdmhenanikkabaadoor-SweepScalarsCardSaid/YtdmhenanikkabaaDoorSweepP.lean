/- Layer 18 (sweep): without a region's objects; other words in scalars: plain Lean. -/
import Derived.Test.YtdmhenanikkabaaDoorObj
set_option linter.unusedVariables false
set_option linter.unusedSimpArgs false
namespace Go.Proofs.YtdmhenanikkabaaDoor
open Go Go.RowKit

def rest_ (l : List Ob) (r : Int) : List Ob := l.filter fun o => decide (o.reg ≠ r)
theorem find_rest {l : List Ob} (hd : l.Pairwise (fun a b => a.at_ ≠ b.at_)) (r v : Int) : (rest_ l r).find? (hit v) = match l.find? (hit v) with
    | none => none
    | some o => if o.reg = r then none else some o := by
  induction l with
  | nil => rfl
  | cons x t ih =>
    obtain ⟨h1, h2⟩ := List.pairwise_cons.1 hd
    have ih := ih h2
    unfold rest_ at ih ⊢
    rw [List.filter_cons, List.find?_cons]
    cases hx : hit v x with
    | true =>
      simp only
      by_cases e : x.reg = r
      · rw [if_neg (by simp [e]), if_pos e, List.find?_eq_none]
        intro y hy
        have hya := h1 y (List.mem_filter.1 hy).1
        unfold hit at hx ⊢
        simp at hx ⊢
        intro _
        omega
      · rw [if_pos (by simp [e]), if_neg e, List.find?_cons, hx]
    | false =>
      simp only
      by_cases e : x.reg = r
      · rw [if_neg (by simp [e])]; exact ih
      · rw [if_pos (by simp [e]), List.find?_cons, hx]; exact ih
theorem tgt_rest {l : List Ob} (hd : l.Pairwise (fun a b => a.at_ ≠ b.at_)) {r q : Int} (hq : q ≠ 0) (hqr : q ≠ r) (v : Int) : tgt l v = q ↔ tgt (rest_ l r) v = q := by
  unfold tgt
  rw [find_rest hd]
  by_cases h0 : v = 0
  · rw [if_pos h0, if_pos h0]
  · rw [if_neg h0, if_neg h0]
    cases l.find? (hit v) with
    | none => exact Iff.rfl
    | some o =>
      simp only
      by_cases e : o.reg = r
      · rw [if_pos e]
        simp only
        constructor <;> intro z <;> omega
      · rw [if_neg e]
theorem lk_count {l l' : List Ob} {q : Int} (hq : q ≠ 0) (ht : ∀ v, tgt l v = q ↔ tgt l' v = q) (g : Int) (x : Int × Int) : ((lk l g x).map (·.2)).count q = ((lk l' g x).map (·.2)).count q := by
  have key : ∀ l'' : List Ob, ((lk l'' g x).map (·.2)).count q = if x.1 = 1 ∧ q ≠ g ∧ tgt l'' x.2 = q then 1 else 0 := by
    intro l''
    unfold lk
    by_cases h1 : x.1 = 1
    · by_cases h2 : tgt l'' x.2 = q
      · by_cases h3 : q = g
        · rw [if_neg (by rw [h2]; simp [h3]), if_neg (by simp [h3])]; simp
        · rw [if_pos ⟨h1, by rw [h2]; exact hq, by rw [h2]; exact h3⟩, if_pos ⟨h1, h3, h2⟩]; simp [h2]
      · rw [if_neg (fun z : x.1 = 1 ∧ q ≠ g ∧ tgt l'' x.2 = q => h2 z.2.2)]
        split
        · simp [h2]
        · simp
    · rw [if_neg (fun z => h1 z.1), if_neg (fun z => h1 z.1)]; simp
  rw [key, key]
  by_cases h : tgt l x.2 = q
  · have h' := (ht x.2).1 h; simp [h, h']
  · have h' : ¬ tgt l' x.2 = q := fun z => h ((ht x.2).2 z); simp [h, h']
theorem flat_count {α : Type} {f g : α → List (Int × Int)} {q : Int} : ∀ (L : List α), (∀ x, ((f x).map (·.2)).count q = ((g x).map (·.2)).count q) → ((L.flatMap f).map (·.2)).count q = ((L.flatMap g).map (·.2)).count q
  | [], _ => rfl
  | x :: t, h => by
    rw [List.flatMap_cons, List.flatMap_cons, List.map_append, List.map_append, List.count_append, List.count_append, h x, flat_count t h]
theorem oLinks_fst {l : List Ob} {o : Ob} {x : Int × Int} (h : x ∈ oLinks l o) : x.1 = o.reg := by
  obtain ⟨y, _, h2⟩ := List.mem_flatMap.1 h
  unfold lk at h2
  split at h2
  · rw [List.mem_singleton.1 h2]
  · simp at h2
theorem split_count {l l' : List Ob} {q r : Int} (hc : ∀ o, ((oLinks l o).map (·.2)).count q = ((oLinks l' o).map (·.2)).count q) : ∀ (os : List Ob),
    ((os.flatMap (oLinks l)).map (·.2)).count q = (((rest_ os r).flatMap (oLinks l')).map (·.2)).count q + (((os.flatMap (oLinks l)).filter fun x => decide (x.1 = r)).map (·.2)).count q
  | [] => rfl
  | o :: t => by
    have ih := split_count (r := r) hc t
    unfold rest_ at ih ⊢
    rw [List.flatMap_cons, List.filter_append, List.map_append, List.map_append, List.count_append, List.count_append, ih, List.filter_cons]
    by_cases e : o.reg = r
    · have hA : (oLinks l o).filter (fun x => decide (x.1 = r)) = oLinks l o := List.filter_eq_self.2 (fun x hx => by rw [oLinks_fst hx, e]; simp)
      rw [if_neg (by simp [e]), hA]
      omega
    · have hA : (oLinks l o).filter (fun x => decide (x.1 = r)) = [] := List.filter_eq_nil_iff.2 (fun x hx => by rw [oLinks_fst hx]; simp [e])
      rw [if_pos (by simp [e]), hA, List.flatMap_cons, List.map_append, List.count_append, hc o]
      simp
      omega
theorem roots_count {l l' : List Ob} {q : Int} (hq : q > 0) (ht : ∀ v, tgt l v = q ↔ tgt l' v = q) : ∀ rs : List Int, ((rs.map (tgt l)).filter fun t => decide (t > 0)).count q = ((rs.map (tgt l')).filter fun t => decide (t > 0)).count q
  | [] => rfl
  | v :: t => by
    have ih := roots_count hq ht t
    have one : ∀ T : Int, ([T].filter fun t => decide (t > 0)).count q = if T = q then 1 else 0 := fun T => by
      by_cases e : T = q
      · simp [e, hq]
      · by_cases e2 : T > 0 <;> simp [e, e2]
    have sp : ∀ (x : Int) (L : List Int), ((x :: L).filter fun t => decide (t > 0)).count q = ([x].filter fun t => decide (t > 0)).count q + (L.filter fun t => decide (t > 0)).count q := fun x L => by
      rw [show x :: L = [x] ++ L from rfl, List.filter_append, List.count_append]
    rw [List.map_cons, List.map_cons, sp (tgt l v), sp (tgt l' v), one (tgt l v), one (tgt l' v), ih]
    by_cases h : tgt l v = q
    · rw [if_pos h, if_pos ((ht v).1 h)]
    · rw [if_neg h, if_neg (fun z => h ((ht v).2 z))]
theorem Fits.rest {l : List Ob} (h : Fits l) (r : Int) : Fits (rest_ l r) :=
  ⟨Nat.le_trans (List.length_filter_le _ _) h.n, fun o ho => h.k o (List.mem_filter.1 ho).1, fun o ho => h.r o (List.mem_filter.1 ho).1⟩
theorem missing {l : List Ob} (hl : Fits l) (hd : l.Pairwise (fun a b => a.at_ ≠ b.at_)) (rs : List Int) (hrs : rs.length ≤ 60) {r q : Int} (hq : q > 0) (hqr : q ≠ r) :
    cnt (tally (ins_ (rest_ l r) rs)) q = cnt (tally (ins_ l rs)) q - cnt (tally (outs l r)) q ∧ 0 ≤ cnt (tally (outs l r)) q ∧ cnt (tally (outs l r)) q ≤ 2400 ∧ 0 ≤ cnt (tally (ins_ l rs)) q ∧ cnt (tally (ins_ l rs)) q ≤ 2460 := by
  have ht := tgt_rest hd (by omega : q ≠ 0) hqr
  obtain ⟨a1, a2⟩ := ins_ok (hl.rest r) rs hrs
  obtain ⟨b1, b2⟩ := ins_ok hl rs hrs
  obtain ⟨c1, c2⟩ := outs_ok hl r
  rw [(tally_of a1 (by omega)).2, (tally_of b1 (by omega)).2, (tally_of c1 (by omega)).2]
  have h1 := split_count (r := r) (fun o => flat_count (f := lk l o.reg) (g := lk (rest_ l r) o.reg) (q := q) (o.kinds.zip o.vals) (fun x => lk_count (by omega) ht o.reg x)) l
  have h2 := roots_count hq ht rs
  have h3 : (ins_ l rs).count q = (ins_ (rest_ l r) rs).count q + (outs l r).count q := by
    unfold ins_ outs links
    rw [List.count_append, List.count_append, h2, h1]
    omega
  have h4 := List.count_le_length (a := q) (l := outs l r)
  have h5 := List.count_le_length (a := q) (l := ins_ l rs)
  omega
theorem outs_rest (l : List Ob) (r : Int) : outs (rest_ l r) r = [] := by
  unfold outs
  rw [List.filter_eq_nil_iff.2 (fun x hx => ?_)]
  · rfl
  · obtain ⟨o, ho, hxo⟩ := List.mem_flatMap.1 hx
    have h1 := (List.mem_filter.1 ho).2
    simp at h1
    rw [oLinks_fst hxo]
    simp [h1]
theorem outs_self {l : List Ob} (hl : Fits l) (r : Int) : cnt (tally (outs l r)) r = 0 := by
  obtain ⟨c1, c2⟩ := outs_ok hl r
  rw [(tally_of c1 (by omega)).2, List.count_eq_zero_of_not_mem]
  · rfl
  · intro h
    obtain ⟨x, hx, e⟩ := List.mem_map.1 h
    obtain ⟨h1, h2⟩ := List.mem_filter.1 hx
    simp at h2
    exact (mem_links h1).2 (by rw [e, h2])
end Go.Proofs.YtdmhenanikkabaaDoor

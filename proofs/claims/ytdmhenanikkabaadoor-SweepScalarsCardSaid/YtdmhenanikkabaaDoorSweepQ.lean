/- Layer 18 (sweep): other words in scalars: plain Lean. -/
import Derived.Test.YtdmhenanikkabaaDoorObj
set_option linter.unusedVariables false
set_option linter.unusedSimpArgs false
namespace Go.Proofs.YtdmhenanikkabaaDoor
open Go Go.RowKit

structure Tw (o o' : Ob) : Prop where
  a : o'.at_ = o.at_
  r : o'.reg = o.reg
  k : o'.kinds = o.kinds
  n : o'.vals.length = o.vals.length
  v : ∀ i : Nat, o.kinds[i]? = some 1 → o'.vals[i]? = o.vals[i]?
def Twins : List Ob → List Ob → Prop
  | [], [] => True
  | a :: l, b :: m => Tw a b ∧ Twins l m
  | _, _ => False
theorem Twins.snoc : ∀ {l m : List Ob} {a b : Ob}, Twins l m → Tw a b → Twins (l ++ [a]) (m ++ [b])
  | [], [], _, _, _, h => ⟨h, trivial⟩
  | x :: l, y :: m, _, _, h, h2 => ⟨h.1, h.2.snoc h2⟩
  | [], _ :: _, _, _, h, _ => h.elim
  | _ :: _, [], _, _, h, _ => h.elim
theorem Twins.length : ∀ {l m : List Ob}, Twins l m → m.length = l.length
  | [], [], _ => rfl
  | x :: l, y :: m, h => by rw [List.length_cons, List.length_cons, h.2.length]
  | [], _ :: _, h => h.elim
  | _ :: _, [], h => h.elim
theorem Twins.find : ∀ {l m : List Ob}, Twins l m → ∀ v, (m.find? (hit v)).map (·.reg) = (l.find? (hit v)).map (·.reg)
  | [], [], _, _ => rfl
  | x :: l, y :: m, h, v => by
    have e : hit v y = hit v x := by unfold hit; rw [h.1.a]
    rw [List.find?_cons, List.find?_cons, e]
    cases hit v x with
    | true => simp [h.1.r]
    | false => exact h.2.find v
  | [], _ :: _, h, _ => h.elim
  | _ :: _, [], h, _ => h.elim
theorem twins_tgt {l m : List Ob} (h : Twins l m) (v : Int) : tgt m v = tgt l v := by
  have hf := h.find v
  unfold tgt
  split
  · rfl
  · cases h1 : l.find? (hit v) with
    | none =>
      rw [h1] at hf
      cases h2 : m.find? (hit v) with
      | none => rfl
      | some o => rw [h2] at hf; cases hf
    | some o =>
      rw [h1] at hf
      cases h2 : m.find? (hit v) with
      | none => rw [h2] at hf; cases hf
      | some o' => rw [h2] at hf; simp at hf; simp [hf]
theorem zip_same {l m : List Ob} (ht : ∀ v, tgt m v = tgt l v) (g : Int) : ∀ (ks vs vs' : List Int), vs'.length = vs.length → (∀ i : Nat, ks[i]? = some 1 → vs'[i]? = vs[i]?) → (ks.zip vs').flatMap (lk m g) = (ks.zip vs).flatMap (lk l g)
  | [], _, _, _, _ => by simp
  | k :: ks, [], [], _, _ => by simp
  | k :: ks, [], v' :: vs', hl, _ => by simp at hl
  | k :: ks, v :: vs, [], hl, _ => by simp at hl
  | k :: ks, v :: vs, v' :: vs', hl, h => by
    rw [List.zip_cons_cons, List.zip_cons_cons, List.flatMap_cons, List.flatMap_cons, zip_same ht g ks vs vs' (by simpa using hl) (fun i hi => by have := h (i + 1) (by simpa using hi); simpa using this)]
    congr 1
    unfold lk
    by_cases hk : k = 1
    · have := h 0 (by simp [hk])
      simp at this
      subst this
      simp only [ht]
    · rw [if_neg (fun z => hk z.1), if_neg (fun z => hk z.1)]
theorem twins_flat {l m : List Ob} (ht : ∀ v, tgt m v = tgt l v) : ∀ {l' m' : List Ob}, Twins l' m' → m'.flatMap (oLinks m) = l'.flatMap (oLinks l)
  | [], [], _ => rfl
  | x :: l', y :: m', h => by
    rw [List.flatMap_cons, List.flatMap_cons, twins_flat ht h.2]
    congr 1
    unfold oLinks
    rw [h.1.k, h.1.r]
    exact zip_same ht x.reg x.kinds x.vals y.vals h.1.n h.1.v
  | [], _ :: _, h => h.elim
  | _ :: _, [], h => h.elim
theorem twins_outs {l m : List Ob} (h : Twins l m) (r : Int) : outs m r = outs l r := by
  unfold outs links
  rw [twins_flat (twins_tgt h) h]
theorem twins_ins {l m : List Ob} (h : Twins l m) (rs : List Int) : ins_ m rs = ins_ l rs := by
  unfold ins_ links
  rw [twins_flat (twins_tgt h) h, show tgt m = tgt l from funext (twins_tgt h)]
theorem Twins.fits : ∀ {l m : List Ob}, Twins l m → (∀ o ∈ l, o.kinds.length ≤ 40 ∧ o.vals.length ≤ 40) → (∀ o ∈ l, I64 o.reg) → (∀ o ∈ m, o.kinds.length ≤ 40 ∧ o.vals.length ≤ 40) ∧ (∀ o ∈ m, I64 o.reg)
  | [], [], _, _, _ => ⟨by simp, by simp⟩
  | x :: l, y :: m, h, h1, h2 => by
    obtain ⟨e1, e2⟩ := h.2.fits (fun o ho => h1 o (List.mem_cons_of_mem _ ho)) (fun o ho => h2 o (List.mem_cons_of_mem _ ho))
    refine ⟨fun o ho => ?_, fun o ho => ?_⟩
    · rcases List.mem_cons.1 ho with rfl | ho
      · rw [h.1.k, h.1.n]; exact h1 x (by simp)
      · exact e1 o ho
    · rcases List.mem_cons.1 ho with rfl | ho
      · rw [h.1.r]; exact h2 x (by simp)
      · exact e2 o ho
  | [], _ :: _, h, _, _ => h.elim
  | _ :: _, [], h, _, _ => h.elim
theorem twins_Fits {l m : List Ob} (h : Twins l m) (hl : Fits l) : Fits m := by
  obtain ⟨h1, h2⟩ := h.fits hl.k hl.r
  exact ⟨by rw [h.length]; exact hl.n, h1, h2⟩
end Go.Proofs.YtdmhenanikkabaaDoor

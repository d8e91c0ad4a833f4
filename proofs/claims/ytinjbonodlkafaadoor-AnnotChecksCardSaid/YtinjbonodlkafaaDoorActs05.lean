/- Layer 5 (tree): what is done, as rows; a leaf put in. -/
import Derived.Test.YtinjbonodlkafaaDoorTreeWithin
set_option linter.unusedVariables false
set_option linter.unusedSimpArgs false
namespace Go.Proofs.YtinjbonodlkafaaDoor
open Go Go.RowKit

structure TAct where
  id : Int
  parent : Int
  out : Bool
def tactRp : Rp TAct := flat 3 (fun a => [.int .i64 a.id, .int .i64 a.parent, .bool a.out]) (fun _ => rfl) (by intro x u hu; simp at hu; rcases hu with rfl | rfl | rfl <;> rfl) (fun a => I64 a.id ∧ I64 a.parent)
theorem SlR.tact_at {F : Nat → Prop} {w : World} {a : Option Addr} {c : Nat} {l : List TAct} (h : SlR tactRp F w a c l) (i : Nat) (hi : i < l.length) :
    ∃ b off, a = some ⟨b, off, none⟩ ∧ b < w.heap.size ∧ w.cell? ⟨b, off + i * 3, none⟩ = some (.int .i64 l[i].id) ∧ w.cell? ⟨b, off + i * 3 + 1, none⟩ = some (.int .i64 l[i].parent) ∧ w.cell? ⟨b, off + i * 3 + 2, none⟩ = some (.bool l[i].out) ∧ I64 l[i].id ∧ I64 l[i].parent := by
  obtain ⟨b, off, ha, hb, hlt, es, hc, he, hw⟩ := h.at_ i hi
  subst he
  exact ⟨b, off, ha, hlt, hc 0 _ rfl, hc 1 _ rfl, hc 2 _ rfl, hw⟩

/-! ### Plain: the leaf -/
theorem tPut_cases {L : TRows} {n : Nat} (ok : TreeOk L n) (k p : Int) (hk : k ≤ 9223372036854775807) (hn : n + 1 ≤ 1000) : (tPut L k p).2 ≠ 0 ∧ (tPut L k p).1 = L ∨
    tPut L k p = (addRow L k p, 0) ∧ TreeOk (addRow L k p) (n + 1) ∧ 1 ≤ k ∧ (∀ q, (k, q) ∉ L) ∧ (p = 0 ∨ ∃ q, (p, q) ∈ L) := by
  have h1 := tPut_ok ok k p hk hn
  unfold tPut at h1 ⊢
  by_cases e1 : k < 1 ∨ hasB L k = true
  · rw [if_pos e1]; exact .inl ⟨fun z => by simp at z, rfl⟩
  · rw [if_neg e1] at h1 ⊢
    by_cases e2 : p ≠ 0 ∧ hasB L p = false
    · rw [if_pos e2]; exact .inl ⟨fun z => by simp at z, rfl⟩
    · rw [if_neg e2] at h1 ⊢
      have hf : hasB L k = false := by
        cases e : hasB L k with
        | false => rfl
        | true => exact absurd (.inr e) e1
      refine .inr ⟨rfl, h1, by rcases Int.lt_or_le k 1 with z | z; exact absurd (.inl z) e1; exact z, (hasB_false ok.up).1 hf, ?_⟩
      by_cases hp : p = 0
      · exact .inl hp
      · refine .inr ((hasB_true ok.up).1 ?_)
        cases e : hasB L p with
        | true => rfl
        | false => exact absurd ⟨hp, e⟩ e2

theorem leaf_kids {L : TRows} {n : Nat} (ok : TreeOk L n) {k p : Int} (h1 : 1 ≤ k) (hno : ∀ q, (k, q) ∉ L) (hp : p = 0 ∨ ∃ q, (p, q) ∈ L) : kids (addRow L k p) k = [] := by
  rw [List.eq_nil_iff_forall_not_mem]
  intro x hx
  rcases mem_add.1 (mem_kids.1 hx) with e | e
  · have := (Prod.mk.inj e).2
    rcases hp with hp | ⟨q, hp⟩
    · omega
    · exact hno q (this ▸ hp)
  · rcases (ok.ids _ e).2.2 with z | ⟨q, z⟩
    · simp only at z; omega
    · exact hno q z
theorem leaf_in {L : TRows} {n : Nat} (ok : TreeOk L n) {k p : Int} (ok' : TreeOk (addRow L k p) (n + 1)) (h1 : 1 ≤ k) (hno : ∀ q, (k, q) ∉ L) (hp : p = 0 ∨ ∃ q, (p, q) ∈ L) {x : Int} (hx : x ∈ sub L 0) :
    inB (addRow L k p) p x = inB (addRow L k p) k x ∧ inB (addRow L k p) x k = false := by
  obtain ⟨q, hq⟩ := (mem_walk ok).1 hx
  have hxk : x ≠ k := fun e => hno q (e ▸ hq)
  have hx1 := (ok.ids _ hq).1
  simp only at hx1
  have hbx : hasB (addRow L k p) x = true := (hasB_true ok'.up).2 ⟨q, mem_add.2 (.inr hq)⟩
  have hbk : hasB (addRow L k p) k = true := (hasB_true ok'.up).2 ⟨p, mem_add.2 (.inl rfl)⟩
  have hst := sub_step ok' (mem_add.2 (.inl rfl) : (k, p) ∈ addRow L k p) (b := x)
  constructor
  · rw [Bool.eq_iff_iff]
    unfold inB
    rw [hbx, hbk]
    simp only [Bool.true_and, Bool.and_eq_true, Bool.or_eq_true, decide_eq_true_eq]
    constructor
    · rintro ⟨_, h⟩; exact .inr (hst.2 h)
    · rintro (h | h)
      · exact absurd h.symm hxk
      · have h2 := hst.1 h
        refine ⟨?_, h2⟩
        rcases hp with hp | ⟨q', hp⟩
        · rcases h2 with h2 | h2
          · omega
          · have h3 : ∀ y : Int, y = 0 → y ∉ sub (addRow L k p) x := fun y e => by rw [e]; exact zero_sub ok' x
            exact absurd h2 (h3 p hp)
        · exact (hasB_true ok'.up).2 ⟨q', mem_add.2 (.inr hp)⟩
  · unfold inB
    rw [hbx, hbk, sub_eq ok', leaf_kids ok h1 hno hp]
    simp [hxk]
theorem leaf_out {L : TRows} {n : Nat} (ok : TreeOk L n) {k p : Int} (ok' : TreeOk (addRow L k p) (n + 1)) (h1 : 1 ≤ k) (hno : ∀ q, (k, q) ∉ L) (hp : p = 0 ∨ ∃ q, (p, q) ∈ L) : tOut (addRow L k p) k = (L, 0) := by
  have hbk : hasB (addRow L k p) k = true := (hasB_true ok'.up).2 ⟨p, mem_add.2 (.inl rfl)⟩
  unfold tOut
  rw [hbk, leaf_kids ok h1 hno hp, rm_add ok.up hno]
  simp

/-- What one act leaves. -/
def tAct (L : TRows) (a : TAct) : TRows × Int := if a.out then tOut L a.id else tPut L a.id a.parent
theorem tAct_ok {L : TRows} {n : Nat} (ok : TreeOk L n) (a : TAct) (ia : I64 a.id) (hn : n + 1 ≤ 1000) : TreeOk (tAct L a).1 (n + 1) := by
  unfold tAct
  split
  · exact tOut_ok ok _ hn
  · have h2 : -9223372036854775808 ≤ a.id ∧ a.id ≤ 9223372036854775807 := ia
    exact tPut_ok ok a.id a.parent h2.2 hn
theorem tAct_length (L : TRows) (a : TAct) : (tAct L a).1.length ≤ L.length + 1 := by
  unfold tAct
  split
  · have := tOut_length L a.id; omega
  · exact tPut_length _ _ _
end Go.Proofs.YtinjbonodlkafaaDoor

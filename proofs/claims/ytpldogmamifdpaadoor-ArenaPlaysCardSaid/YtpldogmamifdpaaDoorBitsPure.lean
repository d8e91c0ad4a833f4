/- Marks in words: the plain mathematics. No program text. -/
import Derived.Laws.BitsAllLaws
set_option linter.unusedVariables false
set_option linter.unusedSimpArgs false
namespace Go.Proofs.YtpldogmamifdpaaDoor
open Go

/-- The number whose first m bits are f's. -/
def ofB (f : Nat → Bool) : Nat → Nat
  | 0 => 0
  | m + 1 => ofB f m + (if f m then 2 ^ m else 0)
theorem ofB_lt (f : Nat → Bool) : ∀ m, ofB f m < 2 ^ m
  | 0 => by simp [ofB]
  | m + 1 => by
    have := ofB_lt f m
    simp only [ofB, Nat.pow_succ]
    split <;> omega
theorem ofB_testBit (f : Nat → Bool) : ∀ m i, (ofB f m).testBit i = (decide (i < m) && f i)
  | 0, i => by simp [ofB]
  | m + 1, i => by
    have ih := ofB_testBit f m i
    have hlt := ofB_lt f m
    simp only [ofB]
    by_cases hf : f m = true
    · rw [if_pos hf, Nat.add_comm]
      rcases Nat.lt_trichotomy i m with h | h | h
      · rw [Nat.testBit_two_pow_add_gt h, ih]
        simp [h, Nat.lt_succ_of_lt h]
      · subst h
        rw [Nat.testBit_two_pow_add_eq, ih]
        simp [hf]
      · rw [Nat.testBit_lt_two_pow (Nat.lt_of_lt_of_le (by omega : 2 ^ m + ofB f m < 2 ^ (m + 1)) (Nat.pow_le_pow_right (by omega) h))]
        simp; omega
    · rw [if_neg hf, Nat.add_zero, ih]
      by_cases h : i = m
      · subst h; simp; simpa using hf
      · by_cases h2 : i < m
        · simp [h2, Nat.lt_succ_of_lt h2]
        · simp [h2]; omega
theorem ofB_congr {f g : Nat → Bool} : ∀ {m : Nat}, (∀ i, i < m → f i = g i) → ofB f m = ofB g m
  | 0, _ => rfl
  | m + 1, h => by simp only [ofB]; rw [ofB_congr (fun i hi => h i (by omega)), h m (by omega)]

/-- A bit read: shifted, the lowest. -/
theorem ofB_read (f : Nat → Bool) (m s : Nat) (hs : s < m) : ofB f m / 2 ^ s % 2 = if f s then 1 else 0 := by
  have h := ofB_testBit f m s
  rw [Nat.testBit_eq_decide_div_mod_eq] at h
  simp only [hs, decide_true, Bool.true_and] at h
  have h2 : ofB f m / 2 ^ s % 2 < 2 := Nat.mod_lt _ (by omega)
  cases hf : f s with
  | true => rw [hf] at h; simpa using h
  | false => rw [hf] at h; simp at h; simp; omega
/-- A bit cleared; a bit set. -/
theorem ofB_clear (f : Nat → Bool) (s : Nat) (hs : s < 64) : ofB f 64 &&& (18446744073709551615 - 2 ^ s) = ofB (fun i => if i = s then false else f i) 64 := by
  apply Nat.eq_of_testBit_eq
  intro i
  have hp : 2 ^ s < 2 ^ 64 := Nat.pow_lt_pow_right (by omega) hs
  rw [show 18446744073709551615 - 2 ^ s = 2 ^ 64 - (2 ^ s + 1) by omega, Nat.testBit_and, ofB_testBit, ofB_testBit, Nat.testBit_two_pow_sub_succ hp, Nat.testBit_two_pow]
  by_cases h : i = s
  · subst h; simp
  · rw [if_neg h]
    have : decide (s = i) = false := by simpa using fun e => h e.symm
    rw [this]
    by_cases h2 : i < 64 <;> simp [h2]
theorem ofB_set (f : Nat → Bool) (s : Nat) (hs : s < 64) : ofB f 64 ||| 2 ^ s = ofB (fun i => if i = s then true else f i) 64 := by
  apply Nat.eq_of_testBit_eq
  intro i
  rw [Nat.testBit_or, ofB_testBit, ofB_testBit, Nat.testBit_two_pow]
  by_cases h : i = s
  · subst h; simp [hs]
  · rw [if_neg h]
    have : decide (s = i) = false := by simpa using fun e => h e.symm
    rw [this, Bool.or_false]

/-- How many of the first m are true. -/
def popB (f : Nat → Bool) : Nat → Nat
  | 0 => 0
  | m + 1 => popB f m + (if f m then 1 else 0)
theorem popB_le (f : Nat → Bool) : ∀ m, popB f m ≤ m
  | 0 => by simp [popB]
  | m + 1 => by have := popB_le f m; simp only [popB]; split <;> omega
theorem popB_congr {f g : Nat → Bool} : ∀ {m : Nat}, (∀ i, i < m → f i = g i) → popB f m = popB g m
  | 0, _ => rfl
  | m + 1, h => by simp only [popB]; rw [popB_congr (fun i hi => h i (by omega)), h m (by omega)]
theorem popB_add (f : Nat → Bool) (a : Nat) : ∀ b, popB f (a + b) = popB f a + popB (fun i => f (a + i)) b
  | 0 => by simp [popB]
  | b + 1 => by
    rw [← Nat.add_assoc]
    simp only [popB, popB_add f a b]
    omega
theorem popB_none (f : Nat → Bool) (n : Nat) : ∀ m, n ≤ m → (∀ i, n ≤ i → f i = false) → popB f m = popB f n
  | 0, h, _ => by obtain rfl : n = 0 := by omega
                  rfl
  | m + 1, h, hf => by
    by_cases h2 : n = m + 1
    · rw [h2]
    · simp only [popB]
      rw [popB_none f n m (by omega) hf, hf m (by omega)]
      simp

/-- The bits of a number, added up: as the library's function reckons them. -/
def pop : Nat → Nat → Nat
  | 0, _ => 0
  | m + 1, x => x % 2 + pop m (x / 2)
theorem pop_add : ∀ (a b x : Nat), pop (a + b) x = pop a x + pop b (x / 2 ^ a)
  | 0, b, x => by simp [pop]
  | a + 1, b, x => by
    rw [show a + 1 + b = (a + b) + 1 by omega]
    simp only [pop]
    rw [pop_add a b (x / 2), Nat.div_div_eq_div_mul, Nat.pow_succ, Nat.mul_comm 2]
    omega
theorem pop_mod : ∀ (a x : Nat), pop a (x % 2 ^ a) = pop a x
  | 0, x => rfl
  | a + 1, x => by
    simp only [pop]
    have e1 : x % 2 ^ (a + 1) % 2 = x % 2 := by rw [Nat.pow_succ, Nat.mul_comm]; exact Nat.mod_mul_right_mod x 2 (2 ^ a)
    have e2 : x % 2 ^ (a + 1) / 2 = x / 2 % 2 ^ a := by rw [Nat.pow_succ, Nat.mul_comm, Nat.mod_mul_right_div_self]
    rw [e1, e2, pop_mod a (x / 2)]
theorem pop_ofB (f : Nat → Bool) : ∀ m, pop m (ofB f m) = popB f m := by
  intro m
  have key : ∀ k, k ≤ m → pop k (ofB f m) = popB f k := by
    intro k
    induction k with
    | zero => intro _; rfl
    | succ k ih =>
      intro hk
      rw [pop_add k 1, ih (by omega)]
      simp only [pop, popB, Nat.add_zero]
      rw [ofB_read f m k (by omega)]
  exact key m (Nat.le_refl _)

/-! ### The library's way of adding bits up -/
/-- Bytes, the lowest first. -/
def val : List Nat → Nat
  | [] => 0
  | b :: r => b + 256 * val r
def sA (b : Nat) : Nat := (b / 2 &&& 85) + (b &&& 85)
def sB (b : Nat) : Nat := (b / 4 &&& 51) + (b &&& 51)
def sC (b : Nat) : Nat := (b / 16 + b) % 16

theorem split_and (a b x y : Nat) (ha : a < 256) (hb : b < 256) : (a + 256 * x) &&& (b + 256 * y) = (a &&& b) + 256 * (x &&& y) := by
  have h1 : a + 256 * x = 2 ^ 8 * x + a := by omega
  have h2 : b + 256 * y = 2 ^ 8 * y + b := by omega
  have h3 : (a &&& b) + 256 * (x &&& y) = 2 ^ 8 * (x &&& y) + (a &&& b) := by omega
  have hab : a &&& b < 256 := Nat.lt_of_le_of_lt Nat.and_le_left ha
  rw [h1, h2, h3]
  apply Nat.eq_of_testBit_eq
  intro i
  rw [Nat.testBit_and, Nat.testBit_two_pow_mul_add _ (by simpa using ha), Nat.testBit_two_pow_mul_add _ (by simpa using hb), Nat.testBit_two_pow_mul_add _ (by simpa using hab)]
  by_cases hi : i < 8
  · simp [hi]
  · simp [hi]

theorem low85 : ∀ a : Fin 256, ∀ c : Fin 2, (a.val / 2 + 128 * c.val) &&& 85 = a.val / 2 &&& 85 := by decide +kernel
theorem low51 : ∀ a : Fin 256, ∀ c : Fin 4, (a.val / 4 + 64 * c.val) &&& 51 = a.val / 4 &&& 51 := by decide +kernel
theorem stepA : ∀ l : List Nat, (∀ b ∈ l, b < 256) → (val l / 2 &&& val (l.map fun _ => 85)) + (val l &&& val (l.map fun _ => 85)) = val (l.map sA)
  | [], _ => rfl
  | a :: r, h => by
    have ih := stepA r (fun b hb => h b (by simp [hb]))
    have ha := h a (by simp)
    simp only [List.map_cons, val] at ih ⊢
    have e : (a + 256 * val r) / 2 = (a / 2 + 128 * (val r % 2)) + 256 * (val r / 2) := by omega
    have hl := low85 ⟨a, ha⟩ ⟨val r % 2, by omega⟩
    simp only at hl
    rw [e, split_and _ _ _ _ (by omega) (by omega), split_and _ _ _ _ ha (by omega), hl]
    have hs : sA a = (a / 2 &&& 85) + (a &&& 85) := rfl
    omega
theorem stepB : ∀ l : List Nat, (∀ b ∈ l, b < 256) → (val l / 4 &&& val (l.map fun _ => 51)) + (val l &&& val (l.map fun _ => 51)) = val (l.map sB)
  | [], _ => rfl
  | a :: r, h => by
    have ih := stepB r (fun b hb => h b (by simp [hb]))
    have ha := h a (by simp)
    simp only [List.map_cons, val] at ih ⊢
    have e : (a + 256 * val r) / 4 = (a / 4 + 64 * (val r % 4)) + 256 * (val r / 4) := by omega
    have hl := low51 ⟨a, ha⟩ ⟨val r % 4, by omega⟩
    simp only at hl
    rw [e, split_and _ _ _ _ (by omega) (by omega), split_and _ _ _ _ ha (by omega), hl]
    have hs : sB a = (a / 4 &&& 51) + (a &&& 51) := rfl
    omega
theorem low15 (n : Nat) : n &&& 15 = n % 16 := Nat.and_two_pow_sub_one_eq_mod n 4
theorem stepC : ∀ l : List Nat, (∀ b ∈ l, b % 16 ≤ 4 ∧ b / 16 ≤ 4) → (val l / 16 + val l &&& val (l.map fun _ => 15)) = val (l.map sC)
  | [], _ => rfl
  | a :: r, h => by
    have ih := stepC r (fun b hb => h b (by simp [hb]))
    have ha := h a (by simp)
    have hr : val r % 16 ≤ 4 := by
      cases r with
      | nil => simp [val]
      | cons b s => have := h b (by simp); simp only [val]; omega
    simp only [List.map_cons, val] at ih ⊢
    have e : (a + 256 * val r) / 16 + (a + 256 * val r) = (a / 16 + 16 * (val r % 16) + a) + 256 * (val r / 16 + val r) := by omega
    rw [e, split_and _ _ _ _ (by omega) (by omega), low15, ih]
    have hs : sC a = (a / 16 + a) % 16 := rfl
    omega
theorem byte_all : ∀ b : Fin 256, (sB (sA b.val)) % 16 ≤ 4 ∧ sB (sA b.val) / 16 ≤ 4 ∧ sA b.val < 256 ∧ sC (sB (sA b.val)) = pop 8 b.val ∧ pop 8 b.val ≤ 8 := by decide +kernel

def M1 : Nat := 6148914691236517205
def M2 : Nat := 3689348814741910323
def M4 : Nat := 1085102592571150095
/-- What the library's function reckons. -/
def swar (x : Nat) : Nat :=
  let a := (x / 2 &&& M1) + (x &&& M1)
  let b := (a / 4 &&& M2) + (a &&& M2)
  let c := b / 16 + b &&& M4
  let d := c + c / 256
  let e := d + d / 65536
  let f := e + e / 4294967296
  f % 128
theorem bytes8 (x : Nat) (hx : x < 18446744073709551616) : ∃ b0 b1 b2 b3 b4 b5 b6 b7 : Nat, x = val [b0, b1, b2, b3, b4, b5, b6, b7] ∧ b0 < 256 ∧ b1 < 256 ∧ b2 < 256 ∧ b3 < 256 ∧ b4 < 256 ∧ b5 < 256 ∧ b6 < 256 ∧ b7 < 256 := by
  refine ⟨x % 256, x / 256 % 256, x / 256 / 256 % 256, x / 256 / 256 / 256 % 256, x / 256 / 256 / 256 / 256 % 256, x / 256 / 256 / 256 / 256 / 256 % 256, x / 256 / 256 / 256 / 256 / 256 / 256 % 256, x / 256 / 256 / 256 / 256 / 256 / 256 / 256 % 256, ?_, ?_, ?_, ?_, ?_, ?_, ?_, ?_, ?_⟩
  · simp only [val]; omega
  all_goals omega
theorem pop_val : ∀ (l : List Nat), (∀ b ∈ l, b < 256) → pop (8 * l.length) (val l) = (l.map (pop 8)).sum
  | [], _ => rfl
  | a :: r, h => by
    have ih := pop_val r (fun b hb => h b (by simp [hb]))
    have ha := h a (by simp)
    rw [List.length_cons, show 8 * (r.length + 1) = 8 + 8 * r.length by omega, pop_add, ← pop_mod 8 (val (a :: r))]
    simp only [val, List.map_cons, List.sum_cons]
    rw [show (a + 256 * val r) % 2 ^ 8 = a by omega, show (a + 256 * val r) / 2 ^ 8 = val r by omega, ih]
theorem fold8 (c0 c1 c2 c3 c4 c5 c6 c7 c d e : Nat) (h0 : c0 ≤ 8) (h1 : c1 ≤ 8) (h2 : c2 ≤ 8) (h3 : c3 ≤ 8) (h4 : c4 ≤ 8) (h5 : c5 ≤ 8) (h6 : c6 ≤ 8) (h7 : c7 ≤ 8)
    (hc : c = c0 + 256 * (c1 + 256 * (c2 + 256 * (c3 + 256 * (c4 + 256 * (c5 + 256 * (c6 + 256 * (c7 + 256 * 0)))))))) (hd : d = c + c / 256) (he : e = d + d / 65536) :
    (e + e / 4294967296) % 128 = c0 + (c1 + (c2 + (c3 + (c4 + (c5 + (c6 + (c7 + 0))))))) := by
  have q : c / 256 = c1 + 256 * c2 + 65536 * c3 + 16777216 * c4 + 4294967296 * c5 + 1099511627776 * c6 + 281474976710656 * c7 := by omega
  have d' : d = (c0 + c1) + 256 * (c1 + c2) + 65536 * ((c2 + c3) + 256 * (c3 + c4) + 65536 * (c4 + c5) + 16777216 * (c5 + c6) + 4294967296 * (c6 + c7) + 1099511627776 * c7) := by omega
  have r : d / 65536 = (c2 + c3) + 256 * (c3 + c4) + 65536 * (c4 + c5) + 16777216 * (c5 + c6) + 4294967296 * (c6 + c7) + 1099511627776 * c7 := by clear q hd he hc; omega
  have e' : e = (c0 + c1 + c2 + c3) + 256 * (c1 + c2 + c3 + c4) + 65536 * (c2 + c3 + c4 + c5) + 16777216 * (c3 + c4 + c5 + c6) + 4294967296 * ((c4 + c5 + c6 + c7) + 256 * (c5 + c6 + c7) + 65536 * (c6 + c7) + 16777216 * c7) := by clear q hd hc; omega
  have t : e / 4294967296 = (c4 + c5 + c6 + c7) + 256 * (c5 + c6 + c7) + 65536 * (c6 + c7) + 16777216 * c7 := by clear q hd hc he d' r; omega
  rw [t, e']
  clear q hd hc he d' r e' t
  omega
set_option maxRecDepth 100000 in
theorem swar_pop (x : Nat) (hx : x < 18446744073709551616) : swar x = pop 64 x := by
  obtain ⟨b0, b1, b2, b3, b4, b5, b6, b7, rfl, h0, h1, h2, h3, h4, h5, h6, h7⟩ := bytes8 x hx
  have hl : ∀ b ∈ [b0, b1, b2, b3, b4, b5, b6, b7], b < 256 := by
    intro b hb
    simp only [List.mem_cons, List.not_mem_nil, or_false] at hb
    rcases hb with rfl | rfl | rfl | rfl | rfl | rfl | rfl | rfl <;> assumption
  have eA := stepA _ hl
  have hlA : ∀ b ∈ [b0, b1, b2, b3, b4, b5, b6, b7].map sA, b < 256 := by
    intro b hb
    obtain ⟨c, hc, rfl⟩ := List.mem_map.1 hb
    exact (byte_all ⟨c, hl c hc⟩).2.2.1
  have eB := stepB _ hlA
  have hlB : ∀ b ∈ ([b0, b1, b2, b3, b4, b5, b6, b7].map sA).map sB, b % 16 ≤ 4 ∧ b / 16 ≤ 4 := by
    intro b hb
    obtain ⟨c, hc, rfl⟩ := List.mem_map.1 hb
    obtain ⟨d, hd, rfl⟩ := List.mem_map.1 hc
    have := byte_all ⟨d, hl d hd⟩
    exact ⟨this.1, this.2.1⟩
  have eC := stepC _ hlB
  have m1 : val ([b0, b1, b2, b3, b4, b5, b6, b7].map fun _ => 85) = M1 := by simp [val, M1]
  have m2 : val (([b0, b1, b2, b3, b4, b5, b6, b7].map sA).map fun _ => 51) = M2 := by simp [val, M2]
  have m4 : val ((([b0, b1, b2, b3, b4, b5, b6, b7].map sA).map sB).map fun _ => 15) = M4 := by simp [val, M4]
  rw [m1] at eA
  rw [m2] at eB
  rw [m4] at eC
  have hp := pop_val _ hl
  simp only [List.length_cons, List.length_nil, Nat.zero_add, Nat.reduceAdd, Nat.reduceMul] at hp
  have p0 := byte_all ⟨b0, h0⟩
  have p1 := byte_all ⟨b1, h1⟩
  have p2 := byte_all ⟨b2, h2⟩
  have p3 := byte_all ⟨b3, h3⟩
  have p4 := byte_all ⟨b4, h4⟩
  have p5 := byte_all ⟨b5, h5⟩
  have p6 := byte_all ⟨b6, h6⟩
  have p7 := byte_all ⟨b7, h7⟩
  unfold swar
  simp only
  rw [eA, eB, eC, hp]
  simp only [List.map_cons, List.map_nil, List.sum_cons, List.sum_nil, val] at p0 p1 p2 p3 p4 p5 p6 p7 ⊢
  rw [p0.2.2.2.1, p1.2.2.2.1, p2.2.2.2.1, p3.2.2.2.1, p4.2.2.2.1, p5.2.2.2.1, p6.2.2.2.1, p7.2.2.2.1]
  have q0 := p0.2.2.2.2; have q1 := p1.2.2.2.2; have q2 := p2.2.2.2.2; have q3 := p3.2.2.2.2
  have q4 := p4.2.2.2.2; have q5 := p5.2.2.2.2; have q6 := p6.2.2.2.2; have q7 := p7.2.2.2.2
  exact fold8 _ _ _ _ _ _ _ _ _ _ _ q0 q1 q2 q3 q4 q5 q6 q7 rfl rfl rfl
end Go.Proofs.YtpldogmamifdpaaDoor

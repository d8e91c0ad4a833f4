/- Operations as bytes: the plain mathematics (no program text). -/
namespace Go.Proofs.Ytlmaflhfedbmdaa

/-- An operation. -/
structure OpV where
  kind : Int
  a : Int
  b : Int
  c : Int
  deriving DecidableEq

/-- k bytes of n, the lowest first. -/
def leOf : Nat → Int → List Int
  | 0, _ => []
  | k + 1, n => n % 256 :: leOf k (n / 256)
/-- The number of k bytes, the lowest first. -/
def numOf : Nat → List Int → Int
  | 0, _ => 0
  | _ + 1, [] => 0
  | k + 1, b :: bs => b + 256 * numOf k bs

theorem leOf_length : ∀ (k : Nat) (n : Int), (leOf k n).length = k
  | 0, _ => rfl
  | k + 1, n => by simp [leOf, leOf_length k]
theorem leOf_byte : ∀ (k : Nat) (n : Int), ∀ x ∈ leOf k n, 0 ≤ x ∧ x ≤ 255
  | 0, _, x, h => by simp [leOf] at h
  | k + 1, n, x, h => by
    simp only [leOf, List.mem_cons] at h
    rcases h with rfl | h
    · omega
    · exact leOf_byte k _ x h
theorem numOf_leOf : ∀ (k : Nat) (n : Int) (r : List Int), 0 ≤ n → n < 256 ^ k → numOf k (leOf k n ++ r) = n
  | 0, n, r, h0, h1 => by simp [numOf]; simp at h1; omega
  | k + 1, n, r, h0, h1 => by
    have h2 : n < 256 ^ k * 256 := by rw [← Int.pow_succ]; exact h1
    have h3 : n / 256 < 256 ^ k := Int.ediv_lt_of_lt_mul (by omega) h2
    simp only [leOf, List.cons_append, numOf]
    rw [numOf_leOf k (n / 256) r (by omega) h3]
    omega
theorem leOf_numOf : ∀ (k : Nat) (bs : List Int), k ≤ bs.length → (∀ x ∈ bs, 0 ≤ x ∧ x ≤ 255) → leOf k (numOf k bs) = bs.take k
  | 0, _, _, _ => rfl
  | k + 1, [], h, _ => by simp at h
  | k + 1, b :: bs, h, hb => by
    have h0 := hb b (by simp)
    simp only [numOf, leOf, List.take_succ_cons]
    rw [show (b + 256 * numOf k bs) % 256 = b by omega, show (b + 256 * numOf k bs) / 256 = numOf k bs by omega,
      leOf_numOf k bs (by simp at h; omega) (fun x hx => hb x (by simp [hx]))]
theorem numOf_range : ∀ (k : Nat) (bs : List Int), (∀ x ∈ bs, 0 ≤ x ∧ x ≤ 255) → 0 ≤ numOf k bs ∧ numOf k bs < 256 ^ k
  | 0, _, _ => by simp [numOf]
  | k + 1, [], _ => by simp only [numOf]; exact ⟨by omega, Int.pow_pos (by omega)⟩
  | k + 1, b :: bs, hb => by
    have h0 := hb b (by simp)
    have ih := numOf_range k bs (fun x hx => hb x (by simp [hx]))
    have e : (256 : Int) ^ (k + 1) = 256 ^ k * 256 := Int.pow_succ ..
    simp only [numOf]
    rw [e]
    omega
/-- One byte more. -/
theorem numOf_succ : ∀ (k : Nat) (bs : List Int), ∀ h : k < bs.length, numOf (k + 1) bs = numOf k bs + bs[k] * 256 ^ k
  | 0, b :: bs, _ => by simp [numOf]
  | k + 1, b :: bs, h => by
    simp only [List.length_cons] at h
    have ih := numOf_succ k bs (by omega)
    show b + 256 * numOf (k + 1) bs = b + 256 * numOf k bs + bs[k] * 256 ^ (k + 1)
    rw [ih, Int.pow_succ, Int.mul_add, ← Int.add_assoc]
    congr 1
    rw [Int.mul_comm 256, Int.mul_assoc]
theorem leOf_get : ∀ (k i : Nat) (n : Int), i < k → (leOf k n)[i]? = some (n / 256 ^ i % 256)
  | 0, _, _, h => by omega
  | k + 1, 0, n, _ => by simp [leOf]
  | k + 1, i + 1, n, h => by
    simp only [leOf, List.getElem?_cons_succ]
    rw [leOf_get k i (n / 256) (by omega), Int.pow_succ, Int.mul_comm, Int.ediv_ediv_of_nonneg (by omega)]

/-- An operation's bytes. -/
def opBytes (o : OpV) : List Int := o.kind :: (leOf 8 o.a ++ (leOf 8 o.b ++ leOf 8 o.c))
theorem opBytes_length (o : OpV) : (opBytes o).length = 25 := by simp [opBytes, leOf_length]
def opKindOk (o : OpV) : Bool := decide (0 ≤ o.kind ∧ o.kind ≤ 255)
def opsOk (l : List OpV) : Bool := l.all opKindOk
def putL (l : List OpV) : List Int := if opsOk l then l.flatMap opBytes else []
def putE (l : List OpV) : Int := if opsOk l then 0 else 1

def opOf (bs : List Int) : OpV := ⟨bs.getD 0 0, numOf 8 (bs.drop 1), numOf 8 (bs.drop 9), numOf 8 (bs.drop 17)⟩
def getN : Nat → List Int → List OpV
  | 0, _ => []
  | n + 1, bs => opOf bs :: getN n (bs.drop 25)
def getL (bs : List Int) : List OpV := if bs.length % 25 = 0 then getN (bs.length / 25) bs else []
def getE (bs : List Int) : Int := if bs.length % 25 = 0 then 0 else 10

def OpV.wf (o : OpV) : Prop := (-9223372036854775808 ≤ o.kind ∧ o.kind ≤ 9223372036854775807) ∧ (0 ≤ o.a ∧ o.a ≤ 18446744073709551615) ∧ (0 ≤ o.b ∧ o.b ≤ 18446744073709551615) ∧ (0 ≤ o.c ∧ o.c ≤ 18446744073709551615)

theorem opOf_opBytes (o : OpV) (h : o.wf) (r : List Int) : opOf (opBytes o ++ r) = o := by
  obtain ⟨_, ha, hb, hc⟩ := h
  have e : (256 : Int) ^ 8 = 18446744073709551616 := by decide
  have l8 : ∀ n, (leOf 8 n).length = 8 := leOf_length 8
  obtain ⟨k, a, b, c⟩ := o
  simp only at ha hb hc
  simp only [opOf, opBytes, List.cons_append, List.append_assoc]
  have d1 : (k :: (leOf 8 a ++ (leOf 8 b ++ (leOf 8 c ++ r)))).drop 1 = leOf 8 a ++ (leOf 8 b ++ (leOf 8 c ++ r)) := rfl
  have d9 : (k :: (leOf 8 a ++ (leOf 8 b ++ (leOf 8 c ++ r)))).drop 9 = leOf 8 b ++ (leOf 8 c ++ r) := by
    show (leOf 8 a ++ (leOf 8 b ++ (leOf 8 c ++ r))).drop 8 = _
    rw [List.drop_append_of_le_length (by rw [l8]; omega), List.drop_of_length_le (by rw [l8]; omega), List.nil_append]
  have d17 : (k :: (leOf 8 a ++ (leOf 8 b ++ (leOf 8 c ++ r)))).drop 17 = leOf 8 c ++ r := by
    rw [show (17 : Nat) = 9 + 8 from rfl, ← List.drop_drop, d9, List.drop_append_of_le_length (by rw [l8]; omega), List.drop_of_length_le (by rw [l8]; omega), List.nil_append]
  rw [d1, d9, d17, numOf_leOf 8 a _ (by omega) (by rw [e]; omega), numOf_leOf 8 b _ (by omega) (by rw [e]; omega), numOf_leOf 8 c _ (by omega) (by rw [e]; omega)]
  rfl

theorem getN_flat : ∀ (l : List OpV), (∀ o ∈ l, o.wf) → getN l.length (l.flatMap opBytes) = l
  | [], _ => rfl
  | o :: l, h => by
    simp only [List.length_cons, List.flatMap_cons, getN]
    rw [opOf_opBytes o (h o (by simp)), List.drop_append_of_le_length (by rw [opBytes_length]; omega), List.drop_of_length_le (by rw [opBytes_length]; omega), List.nil_append,
      getN_flat l (fun x hx => h x (by simp [hx]))]
theorem flat_length : ∀ (l : List OpV), (l.flatMap opBytes).length = 25 * l.length
  | [] => rfl
  | o :: l => by rw [List.flatMap_cons, List.length_append, opBytes_length, flat_length l, List.length_cons]; omega
theorem opsOk_bad {l : List OpV} {k : Nat} (h : k < l.length) (hb : ¬ (0 ≤ l[k].kind ∧ l[k].kind ≤ 255)) : opsOk l = false := by
  cases e : opsOk l with
  | false => rfl
  | true => exact absurd (of_decide_eq_true (List.all_eq_true.1 e l[k] (List.getElem_mem h))) hb
theorem opsOk_succ {l : List OpV} {k : Nat} (h : k < l.length) (h0 : opsOk (l.take k) = true) (hb : 0 ≤ l[k].kind ∧ l[k].kind ≤ 255) : opsOk (l.take (k + 1)) = true := by
  rw [List.take_succ_eq_append_getElem h]
  unfold opsOk at *
  rw [List.all_append, h0]
  simp only [List.all_cons, List.all_nil, opKindOk, Bool.true_and, Bool.and_true, decide_eq_true_eq]
  exact hb
theorem putL_bad {l : List OpV} (h : opsOk l = false) : putL l = [] ∧ putE l = 1 := by unfold putL putE; rw [h]; exact ⟨rfl, rfl⟩
theorem putL_ok {l : List OpV} (h : opsOk l = true) : putL l = l.flatMap opBytes ∧ putE l = 0 := by unfold putL putE; rw [h]; exact ⟨rfl, rfl⟩
theorem getL_putL (l : List OpV) (h : ∀ o ∈ l, o.wf) (hok : opsOk l = true) : getL (putL l) = l ∧ getE (putL l) = 0 := by
  unfold putL getL getE
  rw [if_pos hok, flat_length, if_pos (by omega), if_pos (by omega), Nat.mul_div_cancel_left _ (by omega)]
  exact ⟨getN_flat l h, rfl⟩

theorem opBytes_opOf (bs : List Int) (hl : 25 ≤ bs.length) (hb : ∀ x ∈ bs, 0 ≤ x ∧ x ≤ 255) : opBytes (opOf bs) = bs.take 25 := by
  have hd : ∀ n, ∀ x ∈ bs.drop n, 0 ≤ x ∧ x ≤ 255 := fun n x hx => hb x (List.mem_of_mem_drop hx)
  match bs, hl with
  | b :: bs, hl =>
    simp only [List.length_cons] at hl
    simp only [opBytes, opOf]
    rw [leOf_numOf 8 _ (by simp; omega) (hd 1), leOf_numOf 8 _ (by simp; omega) (hd 9), leOf_numOf 8 _ (by simp; omega) (hd 17)]
    simp only [List.drop_succ_cons, List.drop_zero, List.take_succ_cons, List.getD_cons_zero]
    congr 1
    rw [show bs.drop 16 = (bs.drop 8).drop 8 by rw [List.drop_drop]]
    have e1 : (bs.drop 8).take 8 ++ ((bs.drop 8).drop 8).take 8 = (bs.drop 8).take 16 := by
      rw [show (16 : Nat) = 8 + 8 from rfl, List.take_add]
    rw [e1, show (24 : Nat) = 8 + 16 from rfl, List.take_add]
theorem getN_ok : ∀ (n : Nat) (bs : List Int), 25 * n ≤ bs.length → (∀ x ∈ bs, 0 ≤ x ∧ x ≤ 255) → opsOk (getN n bs) = true ∧ (getN n bs).flatMap opBytes = bs.take (25 * n)
  | 0, bs, _, _ => ⟨rfl, rfl⟩
  | n + 1, bs, hl, hb => by
    obtain ⟨h1, h2⟩ := getN_ok n (bs.drop 25) (by simp; omega) (fun x hx => hb x (List.mem_of_mem_drop hx))
    refine ⟨?_, ?_⟩
    · simp only [getN, opsOk, List.all_cons, Bool.and_eq_true]
      refine ⟨?_, h1⟩
      match bs, hl with
      | b :: bs, _ => exact decide_eq_true (hb b (by simp))
    · simp only [getN, List.flatMap_cons]
      rw [h2, opBytes_opOf bs (by omega) hb, show 25 * (n + 1) = 25 + 25 * n by omega, List.take_add]
theorem putL_getL (bs : List Int) (hb : ∀ x ∈ bs, 0 ≤ x ∧ x ≤ 255) (h : bs.length % 25 = 0) : putL (getL bs) = bs ∧ putE (getL bs) = 0 := by
  unfold getL
  rw [if_pos h]
  obtain ⟨h1, h2⟩ := getN_ok (bs.length / 25) bs (by omega) hb
  unfold putL putE
  rw [if_pos h1, if_pos h1, h2, List.take_of_length_le (by omega)]
  exact ⟨rfl, rfl⟩
theorem opOf_wf (bs : List Int) (hb : ∀ x ∈ bs, 0 ≤ x ∧ x ≤ 255) : (opOf bs).wf := by
  have e : (256 : Int) ^ 8 = 18446744073709551616 := by decide
  have hd : ∀ n, ∀ x ∈ bs.drop n, 0 ≤ x ∧ x ≤ 255 := fun n x hx => hb x (List.mem_of_mem_drop hx)
  have h1 := numOf_range 8 _ (hd 1)
  have h2 := numOf_range 8 _ (hd 9)
  have h3 := numOf_range 8 _ (hd 17)
  rw [e] at h1 h2 h3
  refine ⟨?_, by simp only [opOf]; omega, by simp only [opOf]; omega, by simp only [opOf]; omega⟩
  simp only [opOf]
  match bs with
  | [] => simp
  | b :: bs => have := hb b (by simp); simp; omega
theorem opBytes_byte (o : OpV) (h : opKindOk o = true) : ∀ x ∈ opBytes o, 0 ≤ x ∧ x ≤ 255 := by
  intro x hx
  simp only [opKindOk, decide_eq_true_eq] at h
  simp only [opBytes, List.mem_cons, List.mem_append] at hx
  rcases hx with rfl | hx | hx | hx
  · exact h
  · exact leOf_byte _ _ _ hx
  · exact leOf_byte _ _ _ hx
  · exact leOf_byte _ _ _ hx
theorem flat_byte (l : List OpV) (h : opsOk l = true) : ∀ x ∈ l.flatMap opBytes, 0 ≤ x ∧ x ≤ 255 := by
  intro x hx
  obtain ⟨o, ho, hxo⟩ := List.mem_flatMap.1 hx
  exact opBytes_byte o (List.all_eq_true.1 h o ho) x hxo
end Go.Proofs.Ytlmaflhfedbmdaa

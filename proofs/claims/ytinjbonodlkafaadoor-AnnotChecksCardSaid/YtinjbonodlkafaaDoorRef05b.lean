/- The document's answer for layer 5 (tree): Kids, Within. -/
import Derived.Test.YtinjbonodlkafaaDoorRef05
set_option linter.unusedVariables false
set_option linter.unusedSimpArgs false
namespace Go.Proofs.YtinjbonodlkafaaDoor
open Go Go.RowKit

theorem kids_take {L : TRows} {i : Nat} (h : i < L.length) (id : Int) : kids (L.take (i + 1)) id = kids (L.take i) id ++ (if L[i].2 = id then [L[i].1] else []) := by
  rw [List.take_succ_eq_append_getElem h]
  unfold kids
  rw [List.filter_append, List.map_append]
  congr 1
  by_cases e : L[i].2 = id <;> simp [e]

set_option maxRecDepth 100000 in
theorem ref05_Kids (F : Nat → Prop) (w : World) (q : Option Addr) (c : Nat) (L : TRows) (k : Int) (h : SlR (pairRp .i64) F w q c L) (hL : L.length ≤ 100000) (hF : ∀ k, F k → k < w.heap.size) :
    Calls Tryd.prog 32 #[.slice q L.length c, .int .i64 k] w fun e w' => ∃ q' c', e = .returned (.slice q' (kids L k).length c') ∧ SlR (intRp .i64) F w' q' c' (kids L k) ∧ Ch No w w' := by
  obtain ⟨B, hB⟩ : ∃ z, z = w.heap.size := ⟨_, rfl⟩
  have hl0 := h.more (F' := fun k => B ≤ k) (fun k q => .inr (by omega))
  have HB := Lib.hid hB
  clear hB
  go_enter Tryd.func32, Tryd.ntmps32
  go_wp2_with fail
  go_loopw [5, 6] (fun v u wq => ∃ (i : Nat), i ≤ L.length ∧ u = .int .i64 i ∧ OwnR (intRp .i64) B 3 F wq v (kids (L.take i) k) ∧ B ≤ wq.heap.size ∧ SlR (pairRp .i64) (fun k => B ≤ k) wq q c L ∧ Ch No w wq) (fun _ u _ => L.length - (intOf u).toNat)
  case atStart => exact ⟨0, by omega, rfl, OwnR.lit0 (by have := HB.out; omega), by have := HB.out; simp; omega, hl0.ch0 ((Ch.refl _ _).alloc _), (Ch.refl _ _).alloc _⟩
  case round =>
    obtain ⟨i, hi, rfl, ho, hBr, hsl, hC⟩ := hrel
    have hhF : ∀ k, F k → k < B := fun k q => by have := hF k q; have := HB.out; omega
    by_cases hlt : i < L.length
    · obtain ⟨bq, off, rfl, _, _, d0, d1, hxI⟩ := hsl.pair_at i hlt
      have hkt := kids_take hlt k
      have hkl := kids_length (L.take i) k
      have htl : (L.take i).length ≤ i := by rw [List.length_take]; omega
      obtain ⟨x, hx⟩ : ∃ z, z = L[i] := ⟨_, rfl⟩
      rw [← hx] at d0 d1 hxI hkt
      obtain ⟨j, p⟩ := x
      dsimp only at d0 d1 hxI hkt
      by_cases he : p = k
      · have b1 : (p == k) = true := by simp [he]
        rw [if_pos he] at hkt
        have HK := Lib.hid hkt
        have HL := Lib.hid (show (kids (L.take i) k).length ≤ 100000 from by omega)
        clear he hkt hx hkl htl
        go_wp2_with (at_builtin; go_loud (refine wpL_push rfl _ _ _ rfl B 3 (.int .i64 0) 1 8 Tryd.underlying28 infoIntT3 rfl (by decide) (intRp .i64) rfl F _ _ rfl ho [.int .i64 j] _ j 1 (by go_simp) ⟨rfl, hxI.1⟩ hhF (by have := HL.out; omega) (by have := HL.out; omega) hBr ?_); intro v9 w9 ho9 hg9 hk9)
        go_roundw
        case rel => exact ⟨i + 1, by omega, by go_num, by rw [HK.out]; exact ho9, by have := hk9.size; omega, hsl.ch hk9 (fun k z => (ho.blk _ z).1), hg9 No w (by have := HB.out; omega) hC⟩
        case measure => exact meas_lt (by omega)
      · have b1 : (p == k) = false := by simp [he]
        rw [if_neg he, List.append_nil] at hkt
        have HK := Lib.hid hkt
        clear he hkt hx hkl htl
        go_wp2_with fail
        go_roundw
        case rel => exact ⟨i + 1, by omega, by go_num, by rw [HK.out]; exact ho, hBr, hsl, hC⟩
        case measure => exact meas_lt (by omega)
    · obtain rfl : i = L.length := by omega
      rw [List.take_length] at ho
      go_wp2_with fail
      go_ret
      obtain ⟨q', c', hv, hs⟩ := ho.sl hhF
      exact ⟨q', c', by rw [hv]; rfl, hs, hC⟩

theorem ref05_Within (F : Nat → Prop) (w : World) (q : Option Addr) (c n : Nat) (L : TRows) (a b : Int) (h : SlR (pairRp .i64) F w q c L) (ok : TreeOk L n) (hL : L.length ≤ 100000) :
    Calls Tryd.prog 29 #[.slice q L.length c, .int .i64 a, .int .i64 b] w fun e w' => e = .returned (.bool (inB L a b)) ∧ w = w' := by
  have hha := ref05_Has F w q c L a h hL
  have hhb := ref05_Has F w q c L b h hL
  have hpar := fun k => ref05_Parent F w q c L k h hL
  obtain ⟨I, hI⟩ : ∃ z, z = inB L a b := ⟨_, rfl⟩
  rw [← hI]
  cases ea : hasB L a with
  | false =>
    rw [ea] at hha
    have hI0 : I = false := by rw [hI]; unfold inB; rw [ea]; rfl
    subst hI0
    clear hI ea hpar
    go_enter Tryd.func29, Tryd.ntmps29
    go_wp2_with fail
    with_reducible refine hha.mono ?_
    rintro e w1 ⟨rfl, rfl⟩
    dsimp only
    go_wp2_with fail
    go_ret
    exact ⟨rfl, rfl⟩
  | true =>
    rw [ea] at hha
    cases eb : hasB L b with
    | false =>
      rw [eb] at hhb
      have hI0 : I = false := by rw [hI]; unfold inB; rw [eb]; simp
      subst hI0
      clear hI ea eb hpar
      go_enter Tryd.func29, Tryd.ntmps29
      go_wp2_with fail
      with_reducible refine hha.mono ?_
      rintro e w1 ⟨rfl, rfl⟩
      dsimp only
      go_wp2_with fail
      with_reducible refine hhb.mono ?_
      rintro e w1 ⟨rfl, rfl⟩
      dsimp only
      go_wp2_with fail
      go_ret
      exact ⟨rfl, rfl⟩
    | true =>
      rw [eb] at hhb
      have hIr : I = true ↔ (a = b ∨ a ∈ sub L b) := by rw [hI]; unfold inB; rw [ea, eb]; simp
      obtain ⟨hgt, hh, hhn⟩ := ok.high
      have hb0 : b ≠ 0 := by
        obtain ⟨p, hp⟩ := (hasB_true ok.up).1 eb
        have := (ok.ids _ hp).1
        simp only at this
        omega
      have ha1 : a = 0 ∨ ∃ p, (a, p) ∈ L := .inr ((hasB_true ok.up).1 ea)
      have HI := Lib.hid hIr
      clear hI ea eb hIr
      go_enter Tryd.func29, Tryd.ntmps29
      go_wp2_with fail
      with_reducible refine hha.mono ?_
      rintro e w1 ⟨rfl, rfl⟩
      dsimp only
      go_wp2_with fail
      with_reducible refine hhb.mono ?_
      rintro e w1 ⟨rfl, rfl⟩
      dsimp only
      go_wp2_with fail
      go_loopw [1] (fun v wr => ∃ x : Int, v = .int .i64 x ∧ (x = 0 ∨ ∃ p, (x, p) ∈ L) ∧ (I = true ↔ (x = b ∨ x ∈ sub L b)) ∧ w = wr) (fun v _ => n + 1 - hgt (intOf v))
      case atStart => exact ⟨a, rfl, ha1, HI.out, rfl⟩
      case round =>
        obtain ⟨x, rfl, hx, hIx, rfl⟩ := hrel
        by_cases hx0 : x = 0
        · have b1 : (x != 0) = false := by simp [hx0]
          have b2 : (x == b) = false := by rw [hx0]; simp; exact fun e => hb0 e.symm
          have hIf : I = false := by
            cases I with
            | false => rfl
            | true =>
              rcases hIx.1 rfl with e | e
              · exact absurd (hx0.symm.trans e).symm hb0
              · rw [hx0] at e; exact absurd e (zero_sub ok b)
          subst hIf
          clear hIx hx0 hx HI
          go_wp2_with fail
          go_ret
          exact ⟨rfl, rfl⟩
        · by_cases hxb : x = b
          · have b1 : (x != 0) = true := by simp [hx0]
            have b2 : (x != b) = false := by simp [hxb]
            have b3 : (x == b) = true := by simp [hxb]
            have hIf : I = true := hIx.2 (.inl hxb)
            subst hIf
            clear hIx hx0 hx HI hxb
            go_wp2_with fail
            go_ret
            exact ⟨rfl, rfl⟩
          · have b1 : (x != 0) = true := by simp [hx0]
            have b2 : (x != b) = true := by simp [hxb]
            obtain ⟨p, hp⟩ : ∃ p, (x, p) ∈ L := hx.resolve_left hx0
            have hpg := (pget_some ok.up).2 hp
            have hpx := hpar x
            rw [hpg] at hpx
            have hpn : p = 0 ∨ ∃ q, (p, q) ∈ L := (ok.ids _ hp).2.2
            have hIp : I = true ↔ (p = b ∨ p ∈ sub L b) := by rw [hIx, ← sub_step ok hp]; exact ⟨fun e => e.resolve_left hxb, .inr⟩
            have hlt := hh _ hp
            have hle := hhn p
            simp only at hlt
            have HP := Lib.hid hIp
            clear hIx hx0 hx HI hxb hpg hIp
            go_wp2_with fail
            with_reducible refine hpx.mono ?_
            rintro e w1 ⟨rfl, rfl⟩
            dsimp only [Option.getD]
            go_wp2_with fail
            go_roundw
            case rel => exact ⟨p, rfl, hpn, HP.out, by first | rfl | trivial⟩
            case measure => simp [intOf]; omega
end Go.Proofs.YtinjbonodlkafaaDoor

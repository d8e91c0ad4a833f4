/- The document's answer for layer 6: Of. -/
import Derived.Test.YtlmaflhfedbmdaaRef06c
import Derived.Test.YtlmaflhfedbmdaaRows2
set_option linter.unusedVariables false
set_option linter.unusedSimpArgs false
namespace Go.Proofs.Ytlmaflhfedbmdaa
open Go Go.RowKit

theorem bumpLast_set : ∀ (l : List (Int × Int)) (h : 0 < l.length), bumpLast l = l.set (l.length - 1) ((l[l.length - 1]'(by omega)).1, (l[l.length - 1]'(by omega)).2 + 1)
  | [], h => by simp at h
  | [(a, b)], _ => rfl
  | x :: y :: r, _ => by
    have ih := bumpLast_set (y :: r) (by simp)
    simp only [bumpLast, ih, List.length_cons]
    simp
theorem runsOf_bd (f : Int → Int) (o : Int) : ∀ k, ∀ x ∈ runsOf f o k, 0 ≤ x.1 ∧ 1 ≤ x.2 ∧ x.1 + x.2 ≤ k
  | 0, x, hx => by simp [runsOf] at hx
  | k + 1, x, hx => by
    have ih := runsOf_bd f o k
    simp only [runsOf] at hx
    split at hx
    · split at hx
      · by_cases hl : 0 < (runsOf f o k).length
        · rw [bumpLast_set _ hl] at hx
          rcases List.mem_or_eq_of_mem_set hx with hx | rfl
          · have := ih x hx; omega
          · have := ih _ (List.getElem_mem (show (runsOf f o k).length - 1 < (runsOf f o k).length by omega)); simp only; omega
        · have : runsOf f o k = [] := List.length_eq_zero_iff.1 (by omega)
          rw [this] at hx
          simp [bumpLast] at hx
      · rcases List.mem_append.1 hx with hx | hx
        · have := ih x hx; omega
        · simp at hx; subst hx; simp only; omega
    · have := ih x hx; omega
theorem runsOf_pos (f : Int → Int) (o : Int) (k : Nat) (h0 : 0 < k) (h : f ((k : Int) - 1) = o) : 0 < (runsOf f o k).length := by
  obtain ⟨j, rfl⟩ : ∃ j, k = j + 1 := ⟨k - 1, by omega⟩
  rw [show ((j + 1 : Nat) : Int) - 1 = j by omega] at h
  simp only [runsOf]
  rw [if_pos h]
  split
  · rename_i h2
    rw [bumpLast_length]
    exact runsOf_pos f o j h2.1 h2.2
  · simp
termination_by k

set_option maxRecDepth 100000 in
set_option maxHeartbeats 2000000 in
theorem ref06_Of (F : Nat → Prop) (w : World) (a : Option Addr) (c : Nat) (l : List Int) (o : Int) (h : SlR (intRp .i64) F w a c l) (ho : I64 o) (hl : l.length ≤ 1024) (hF : ∀ k, F k → k < w.heap.size) :
    Calls Try.prog 40 #[.slice a l.length c, .int .i64 o] w fun e w' => ∃ v, e = .returned v ∧ OwnR (pairRp .i64) w.heap.size 72 F w' v (if o < 1 then [] else runsOf (pageAt l) o l.length) ∧ Ch No w w' := by
  have ho' := ho.bd
  by_cases h1 : o < 1
  · rw [if_pos h1]
    have b1 : decide (o < 1) = true := by simp; omega
    go_enter Try.func40, Try.ntmps40
    go_wp2_with fail
    go_loopw [5, 6] (fun v i wr => ∃ k : Nat, k ≤ l.length ∧ i = .int .i64 k ∧ OwnR (pairRp .i64) w.heap.size 72 F wr v [] ∧ Ch No w wr) (fun _ i _ => l.length - (intOf i).toNat)
    case atStart => exact ⟨0, by omega, rfl, OwnR.lit0 (Nat.le_refl _), (Ch.refl _ _).alloc _⟩
    case round =>
      obtain ⟨k, hk, rfl, hown, hc⟩ := hrel
      by_cases hlt : k < l.length
      · go_wp2_with fail
        go_roundw
        case rel => exact ⟨k + 1, by omega, by go_num, hown, hc⟩
        case measure => exact meas_lt (by omega)
      · obtain rfl : k = l.length := by omega
        go_wp2_with fail
        go_ret
        exact ⟨_, rfl, hown, hc⟩
  · rw [if_neg h1]
    have b1 : decide (o < 1) = false := by simp; omega
    obtain ⟨f, hf⟩ : ∃ f, f = pageAt l := ⟨_, rfl⟩
    rw [← hf]
    have HF := Lib.hid hf; clear hf
    go_enter Try.func40, Try.ntmps40
    go_wp2_with fail
    go_loopw [5, 6] (fun v i wr => ∃ k : Nat, k ≤ l.length ∧ i = .int .i64 k ∧ OwnR (pairRp .i64) w.heap.size 72 F wr v (runsOf f o k) ∧ Ch No w wr) (fun _ i _ => l.length - (intOf i).toNat)
    case atStart => exact ⟨0, by omega, rfl, OwnR.lit0 (Nat.le_refl _), (Ch.refl _ _).alloc _⟩
    case round =>
      obtain ⟨k, hk, rfl, hown, hc⟩ := hrel
      have hs := hc.size
      by_cases hlt : k < l.length
      · obtain ⟨b, off, rfl, _, _, c1, _⟩ := (h.ch0 hc).int_at k hlt
        have hv : l[k] = f k := by rw [HF.out, pageAt_in l k hlt]
        rw [hv] at c1
        clear hv
        have hlen := runsOf_length f o k
        have hbd := runsOf_bd f o k
        have hpos := runsOf_pos f o k
        obtain ⟨rs, hrs⟩ : ∃ rs, rs = runsOf f o k := ⟨_, rfl⟩
        rw [← hrs] at hown hlen hbd hpos
        have HR := Lib.hid hrs; clear hrs
        by_cases he : f k = o
        · have hb : (f k != o) = false := by simp [he]
          have HE := Lib.hid he; clear he
          by_cases hp : 0 < k ∧ f ((k : Int) - 1) = o
          · obtain ⟨hp1, hp2⟩ := hp
            have hl0 := hpos hp1 hp2
            obtain ⟨b', off', e', _, _, c2, _⟩ := (h.ch0 hc).int_at (k - 1) (by omega)
            cases e'
            have hv : l[k - 1] = f ((k : Int) - 1) := by rw [HF.out, ← pageAt_in l (k - 1) (by omega)]; congr 1; omega
            rw [hv, hp2] at c2
            obtain ⟨q, hq⟩ : ∃ q, rs.length = q + 1 := ⟨rs.length - 1, by omega⟩
            obtain ⟨g, cap, hv2, hg1, hg2, hcell, hfr, hP⟩ := OwnR.flat_form hown hl0
            have hql : q < rs.length := by omega
            rw [hq] at hv2
            subst hv2
            have d0 : wr.cell? ⟨g, q * 2 + 1, none⟩ = some (.int .i64 (rs[q]'hql).2) := hcell q hql 1 _ rfl
            have hf0 := hfr (q * 2 + 1)
            have hbq := hbd _ (List.getElem_mem (show q < rs.length from hql))
            have hPq := hP q hql
            have hbl := bumpLast_set rs hl0
            obtain ⟨z, hz⟩ : ∃ z, z = rs[q]'hql := ⟨_, rfl⟩
            rw [← hz] at d0 hbq hPq
            have hbl2 : bumpLast rs = rs.set q (z.1, z.2 + 1) := by
              rw [hbl]
              simp only [show rs.length - 1 = q by omega, hz]
            have HQ := Lib.hid hq
            have HZ := Lib.hid hz
            have HB := Lib.hid hbl2
            obtain ⟨y, hy⟩ : ∃ y, y = z.2 := ⟨_, rfl⟩
            rw [← hy] at d0 hbq
            have HY := Lib.hid hy
            clear hq hz hbl2 hbl hy hcell hfr hP hbd hpos hl0
            have b2 : decide ((k : Int) > 0) = true := by simp; omega
            have b3 : (o == o) = true := by simp
            go_wp2_with fail
            go_roundw
            case rel =>
              refine ⟨k + 1, by omega, by go_num, ?_, hc.setNew hg1 _⟩
              rw [runsOf, if_pos HE.out, if_pos ⟨hp1, hp2⟩, ← HR.out, HB.out, ← HY.out]
              exact OwnR.flat_set hown HQ.out.symm q 1 (by have := HQ.out; omega) (by omega) (z.1, y + 1) _ (by rw [← HZ.out, HY.out]; rfl) ⟨hPq.1, show _ ∧ _ from by omega⟩
            case measure => exact meas_lt (by omega)
          · have hno : ¬ (0 < k ∧ f ((k : Int) - 1) = o) := hp
            have HN := Lib.hid hno
            by_cases hk0 : 0 < k
            · obtain ⟨b', off', e', _, _, c2, _⟩ := (h.ch0 hc).int_at (k - 1) (by omega)
              cases e'
              have hv : l[k - 1] = f ((k : Int) - 1) := by rw [HF.out, ← pageAt_in l (k - 1) (by omega)]; congr 1; omega
              rw [hv] at c2
              have b2 : decide ((k : Int) > 0) = true := by simp; omega
              have b3 : (f ((k : Int) - 1) == o) = false := by simp; intro e; exact hp ⟨hk0, e⟩
              clear hp hno hv hbd hpos
              go_wp2_with (at_builtin; go_loud (refine wpL_push rfl _ _ _ rfl w.heap.size 72 (.agg #[.int .i64 0, .int .i64 0]) 2 16 Try.underlying81 infoRun rfl (by decide) (pairRp .i64) rfl F u5 _ rfl hown [.int .i64 k, .int .i64 1] _ ((k : Int), 1) 1 (by go_simp) ⟨rfl, ⟨show _ ∧ _ from by omega, show _ ∧ _ from by omega⟩⟩ hF (by omega) (by omega) hs ?_); intro v1 w1 ho1 hg1 _)
              go_roundw
              case rel =>
                refine ⟨k + 1, by omega, by go_num, ?_, hg1 _ _ (Nat.le_refl _) hc⟩
                rw [runsOf, if_pos HE.out, if_neg HN.out, ← HR.out]
                exact ho1
              case measure => exact meas_lt (by omega)
            · have b2 : decide ((k : Int) > 0) = false := by simp; omega
              clear hp hno hbd hpos
              go_wp2_with (at_builtin; go_loud (refine wpL_push rfl _ _ _ rfl w.heap.size 72 (.agg #[.int .i64 0, .int .i64 0]) 2 16 Try.underlying81 infoRun rfl (by decide) (pairRp .i64) rfl F u5 _ rfl hown [.int .i64 k, .int .i64 1] _ ((k : Int), 1) 1 (by go_simp) ⟨rfl, ⟨show _ ∧ _ from by omega, show _ ∧ _ from by omega⟩⟩ hF (by omega) (by omega) hs ?_); intro v1 w1 ho1 hg1 _)
              go_roundw
              case rel =>
                refine ⟨k + 1, by omega, by go_num, ?_, hg1 _ _ (Nat.le_refl _) hc⟩
                rw [runsOf, if_pos HE.out, if_neg HN.out, ← HR.out]
                exact ho1
              case measure => exact meas_lt (by omega)
        · have hb : (f k != o) = true := by simp [he]
          have HE := Lib.hid he; clear he
          clear hpos hbd
          go_wp2_with fail
          go_roundw
          case rel => exact ⟨k + 1, by omega, by go_num, by rw [runsOf, if_neg HE.out, ← HR.out]; exact hown, hc⟩
          case measure => exact meas_lt (by omega)
      · obtain rfl : k = l.length := by omega
        go_wp2_with fail
        go_ret
        exact ⟨_, rfl, hown, hc⟩
end Go.Proofs.Ytlmaflhfedbmdaa

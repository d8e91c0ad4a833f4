/- The law ArenaApart: the walk. -/
import Derived.Test.YtpldogmamifdpaaDoorApart
import Derived.Test.YtpldogmamifdpaaDoorLaw11
import Derived.Deep.RegionHeld3
set_option linter.unusedVariables false
set_option linter.unusedSimpArgs false
namespace Go.Proofs.YtpldogmamifdpaaDoor
open Go Go.RowKit

def ownedTo (f : Nat → Ar) : Nat → Nat
  | 0 => 0
  | i + 1 => ownedTo f i + (pagesOf (f i).R).length
theorem allT_length {f : Nat → Ar} {n : Nat} (h : ∀ j, j < 4 → (f j).T.length ≤ n) : ∀ i, i ≤ 4 → (allT f i).length ≤ i * n
  | 0, _ => by simp [allT]
  | i + 1, hi => by
    have := allT_length h i (by omega)
    have := h i (by omega)
    rw [allT, List.length_append, Nat.add_mul, Nat.one_mul]
    omega
/-- What stands in the last line. -/
structure HeldE (w0 : World) (s p0 g m h : Nat) (x : List Bool) (W : List Int) (w' : World) : Prop where
  pg : PagesAt w' s p0 g m h x W
  nw : Nw w'
  ch : Ch No w0 w'
theorem HeldE.ch0 {w0 : World} {s p0 g m h : Nat} {x : List Bool} {W : List Int} {w' w'' : World} (k : HeldE w0 s p0 g m h x W w') (hc : Ch No w' w'') : HeldE w0 s p0 g m h x W w'' := ⟨k.pg.ch0 hc, k.nw.ch hc (fun q => q), k.ch.trans hc⟩
theorem HeldE.full {w0 : World} {s p0 g m h : Nat} {x : List Bool} {W : List Int} {w' : World} (k : HeldE w0 s p0 g m h x W w') : w'.cell? ⟨s, 0, none⟩ = some (.pointer (some ⟨p0, 0, none⟩)) ∧ HeldE w0 s p0 g m h x W w' := ⟨k.pg.c0, k⟩

set_option maxRecDepth 100000 in
set_option maxHeartbeats 16000000 in
theorem apart11 (w : World) (n : Int) (a : Option Addr) (c : Nat) (l : List Act11) (hsl0 : SlR act11Rp No w a c l) (hn : Nw w) (hn0 : 0 ≤ n ∧ n ≤ 255) (hl : l.length ≤ 9223372036854775807) :
    Calls Tryd.prog 5 #[.int .u8 n, .slice a l.length c] w fun e w' => e = .returned (.bool true) ∧ Ch No w w' := by
  have hnl := hn.lt
  by_cases hcut : 80 < l.length
  · have b3 : decide ((l.length : Int) > 80) = true := decide_eq_true (by omega)
    go_enter Tryd.func5, Tryd.ntmps5
    go_wp2_with fail
    with_reducible refine (fixed11 w hn).mono ?_
    rintro e w1 ⟨rfl, hc⟩
    dsimp only
    go_wp2_with fail
    go_ret
    exact ⟨rfl, hc⟩
  · have b3 : decide ((l.length : Int) > 80) = false := decide_eq_false (by omega)
    have hl80 : l.length ≤ 80 := by omega
    clear hcut hl
    obtain ⟨N, hN⟩ : ∃ N : Nat, N = (1 + n % 60).toNat := ⟨_, rfl⟩
    have hN1 : 1 ≤ N ∧ N ≤ 60 := by omega
    have e1 : IntKind.i64.wrap n = n := IntWalk.i64_in _ (by omega)
    have e2 : n.tmod 60 = n % 60 := Int.tmod_eq_emod_of_nonneg hn0.1
    have e3 : IntKind.i64.wrap (n % 60) = n % 60 := IntWalk.i64_in _ (by omega)
    have e4 : IntKind.i64.wrap (1 + n % 60) = (N : Int) := by rw [IntWalk.i64_in _ (by omega)]; omega
    obtain ⟨q60, hq60⟩ : ∃ z, z = n % 60 := ⟨_, rfl⟩
    rw [← hq60] at e2 e3 e4
    clear hN hq60
    have hnew := pages_New w N hN1.1 (by omega)
    have hslW : ∀ W', Ch (fun k => w.heap.size ≤ k) w W' → SlR act11Rp (fun k => w.heap.size ≤ k) W' a c l := fun W' hc => (hsl0.more (fun k q => .inr q)).ch hc (fun _ q => q)
    have toN : ∀ W', Ch (fun k => w.heap.size ≤ k) w W' → Ch No w W' := fun W' hc => (Ch.refl No w).andThen hc (fun k hk => .inr hk)
    go_enter Tryd.func5, Tryd.ntmps5
    go_wp2_with fail
    with_reducible refine hnew.mono ?_
    rintro e w1 ⟨s, p0, g, m, h', rfl, k1, hs, hp, hg, hm, hh, hc1⟩
    obtain ⟨x0, hx0⟩ : ∃ z, z = List.replicate N false := ⟨_, rfl⟩
    obtain ⟨W0, hW0⟩ : ∃ z, z = List.replicate (16 * N) (0 : Int) := ⟨_, rfl⟩
    have hx0l : x0.length = N := by rw [hx0, List.length_replicate]
    have hcn0 : cntTo x0 x0.length = 0 := by rw [hx0]; exact cnt_none N _
    rw [← hx0, ← hW0] at k1
    have HX0 := Lib.hid hx0
    have hk1l := k1.lt
    have hn1 := hn.ch hc1 (fun q => q)
    have hs1 := hc1.size
    clear hx0 hW0 hnew e1 e2 e3 e4
    dsimp only
    go_wp2_with fail
    with_reducible refine (pages_Mem w1 s p0 g m h' x0 W0 k1).mono ?_
    rintro e w' ⟨rfl, rfl⟩
    dsimp only
    go_wp2_with fail
    obtain ⟨B, hB⟩ : ∃ z, z = w1.heap.size := ⟨_, rfl⟩
    obtain ⟨w2, hw2⟩ : ∃ z, z = w1.alloc (.cells #[.pointer none, .pointer none, .pointer none, .pointer none] 49) := ⟨_, rfl⟩
    have hal : Ch No w1 w2 := by rw [hw2]; exact (Ch.refl _ _).alloc _
    have hP0 : ∀ f, Ptrs 0 w2 B f := fun f => by rw [hw2, hB]; exact ⟨_, World.alloc_heap_new _ _, rfl, fun i hi => absurd hi (by omega)⟩
    have hs2 : w2.heap.size = B + 1 := by rw [hw2, hB]; simp
    obtain ⟨base, hbase⟩ : ∃ z, z = w2.heap.size := ⟨_, rfl⟩
    have k2 := k1.ch0 hal
    have hn2 := hn1.ch hal (fun q => q)
    rw [← hB, ← hw2]
    have hBb : B < base ∧ w1.heap.size ≤ B ∧ base ≤ w2.heap.size ∧ w2.heap.size ≤ base := by omega
    have HW2 := Lib.hid hw2
    clear hw2 hB hs2 hbase
    go_loopw [49] (fun v wq => ∃ (i : Nat) (f : Nat → Ar), i ≤ 4 ∧ v = .int .i64 i ∧ Many11 i wq base s f ∧ Ptrs i wq B f ∧ (∀ j, j < i → Fresh11 (f j)) ∧ Ch (One B) w2 wq) (fun v _ => 4 - (intOf v).toNat)
    case atStart => exact ⟨0, fun _ => fresh11 0 0, by omega, rfl, ⟨fun i hi => absurd hi (by omega), fun i j hi => absurd hi (by omega)⟩, hP0 _, fun j hj => absurd hj (by omega), Ch.refl _ _⟩
    case round =>
      obtain ⟨i, f, hi, rfl, hM, hP, hF, hc⟩ := hrel
      have hsr := hc.size
      by_cases hi4 : i < 4
      · have hnr := hn2.ch hc (fun q => by have : 0 = B := q; omega)
        have hnw := arena_New wr base (.pointer (some ⟨s, 0, none⟩)) hnr (by omega) (.inr ⟨s, rfl⟩)
        go_wp2_with fail
        with_reducible refine hnw.mono ?_
        rintro e w3 ⟨b3, p3, rfl, ha3, hb3, hp3, hc3⟩
        have hP3 := hP.ch hc3 (fun q => q)
        have hM4 := (hM.more (a := fresh11 b3 p3) hc3 ha3 (fun q hq => by rcases fresh11_foot hq with r | r <;> omega)).ch (w' := w3.setCell ⟨B, i, none⟩ (.pointer (some ⟨b3, 0, none⟩))) (F := One B) (Ch.setIn (F := One B) (Ch.refl _ _) (p := ⟨B, i, none⟩) rfl _) (fun k q => .inl (by have : k = B := q; omega))
        have hP4 := hP3.more (a := fresh11 b3 p3) hi4
        have hc4 : Ch (One B) w2 (w3.setCell ⟨B, i, none⟩ (.pointer (some ⟨b3, 0, none⟩))) := (hc.trans hc3.ofNo).trans (Ch.setIn (F := One B) (Ch.refl _ _) (p := ⟨B, i, none⟩) rfl _)
        dsimp only
        obtain ⟨cs, g1, g2, g3⟩ := hP3
        have z0 : w3.cell? ⟨B, i, none⟩ = some (cs[i]'(by omega)) := cellOf g1 i (Array.getElem?_eq_getElem (by omega))
        have z1 := freeOf g1 i
        have z2 := hP4.cell (i := i) (by omega)
        rw [upd_same] at z2
        go_wp2_with fail
        go_roundw
        case rel => exact ⟨i + 1, _, by omega, by go_num, hM4, hP4, fun j hj => by
          by_cases hji : j = i
          · subst hji; rw [upd_same]; exact ⟨rfl, rfl, rfl, rfl, rfl, rfl⟩
          · rw [upd_ne hji]; exact hF j (by omega), hc4⟩
        case measure => exact meas_lt (by omega)
      · obtain rfl : i = 4 := by omega
        rw [show ((4 : Nat) : Int) = 4 from rfl]
        have k3 := k2.ch hc (fun q => by have : s = B := q; omega) (fun q => by have : p0 = B := q; omega) (fun q => by have : g = B := q; omega) (fun q => by have : m = B := q; omega) (fun q => by have : h' = B := q; omega)
        have hn3 := hn2.ch hc (fun q => by have : 0 = B := q; omega)
        have hI0 : Inv11 x0 f := by rw [HX0.out]; exact Inv11.start N f hF
        have hG0 : Ch (fun k => w.heap.size ≤ k) w wr := ((hc1.trans hal).ofNo).trans (hc.mono (fun k q => by have : k = B := q; show w.heap.size ≤ k; omega))
        have hFT : ∀ j, j < 4 → (f j).R.length ≤ 0 ∧ (f j).T.length ≤ 0 := fun j hj => by
          have h1 := (hF j hj).2.2.2.2.1
          have h2 := (hF j hj).2.2.2.2.2
          rw [h1, h2]
          exact ⟨Nat.le_refl _, Nat.le_refl _⟩
        clear HX0 hP0 HW2 hc k1 k2 hn1 hn2
        go_wp2_with fail
        go_loopw [63] (fun v wq => ∃ (i : Nat) (f : Nat → Ar) (x : List Bool) (W : List Int), i ≤ l.length ∧ v = .int .i64 i ∧ Many11 4 wq base s f ∧ Ptrs 4 wq B f ∧ PagesAt wq s p0 g m h' x W ∧ Inv11 x f ∧ x.length = N ∧ (∀ j, j < 4 → (f j).R.length ≤ i ∧ (f j).T.length ≤ i) ∧ Ch (fun k => w.heap.size ≤ k) w wq ∧ Nw wq ∧ base ≤ wq.heap.size) (fun v _ => l.length - (intOf v).toNat)
        case atStart => exact ⟨0, f, x0, W0, by omega, rfl, hM, hP, k3, hI0, hx0l, hFT, hG0, hn3, by omega⟩
        case round =>
          obtain ⟨i, f, x, W, hi, rfl, hM, hP, hk, hI, hxl, hRT, hG, hnr, hsr⟩ := hrel
          by_cases hil : i < l.length
          · obtain ⟨bq, off, rfl, _, d0, d1, d2, i0, i1⟩ := (hslW _ hG).act11_at i hil
            obtain ⟨A, hA⟩ : ∃ z, z = l[i] := ⟨_, rfl⟩
            rw [← hA] at d0 d1 d2 i0 i1
            obtain ⟨wh, sz, rel⟩ := A
            dsimp only at d0 d1 d2 i0 i1
            obtain ⟨k, hkk⟩ : ∃ k : Nat, k = (wh % 4).toNat := ⟨_, rfl⟩
            have i0' : 0 ≤ wh ∧ wh ≤ 255 := i0
            have hk4 : k < 4 := by omega
            have hk4i : (k : Int) < 4 := by omega
            have f1 : IntKind.i64.wrap wh = wh := IntWalk.i64_in _ (by omega)
            have f2 : wh.tmod 4 = (k : Int) := by rw [Int.tmod_eq_emod_of_nonneg (by omega)]; omega
            have f3 : IntKind.i64.wrap (k : Int) = (k : Int) := IntWalk.i64_in _ (by omega)
            obtain ⟨wa, hwa⟩ : ∃ z, z = wr.alloc (.cells #[.int .u8 wh, .int .i64 sz, .bool rel] 51) := ⟨_, rfl⟩
            have hala : Ch No wr wa := by rw [hwa]; exact (Ch.refl _ _).alloc _
            have hda : wa.heap[wr.heap.size]? = some (.cells #[.int .u8 wh, .int .i64 sz, .bool rel] 51 (0, 0)) := by rw [hwa]; exact World.alloc_heap_new _ _
            have y0 := cellOf hda 0 rfl
            have y1 := cellOf hda 1 rfl
            have y2 := cellOf hda 2 rfl
            have hsa : wa.heap.size = wr.heap.size + 1 := by rw [hwa]; simp
            have hMa := hM.ch0 hala
            have hPa := hP.ch hala (fun q => q)
            have zk := hPa.cell hk4
            have hka := hk.ch0 hala
            have hna := hnr.ch hala (fun q => q)
            have hGa := hG.then0 hala
            have hfk : ∀ q, footA (f k) q → base ≤ q ∧ q < wr.heap.size := fun q hq => by have := hM.bd hk4 hq; omega
            have hsub : ∀ q, footA (f k) q ∨ q = g ∨ q = h' → q ≠ B ∧ q ≠ wr.heap.size := fun q hq => by
              rcases hq with r | r | r
              · have := hfk q r; omega
              · omega
              · omega
            have hwk : Within11 (f k).R := (hI.holds k hk4).within (by have := (hRT k hk4).1; omega) (by omega)
            have zk0 : (wr.alloc (.cells #[.int .u8 wh, .int .i64 sz, .bool rel] 51)).cell? ⟨B, k, none⟩ = some (.pointer (some ⟨(f k).b, 0, none⟩)) := by rw [← hwa]; exact zk
            have hFB : ¬ (fun q => footA (f k) q ∨ q = g ∨ q = h') B := fun q => (hsub B q).1 rfl
            have hFb : ¬ (fun q => footA (f k) q ∨ q = g ∨ q = h') wr.heap.size := fun q => (hsub wr.heap.size q).2 rfl
            have HA := Lib.hid hA
            have HWA := Lib.hid hwa
            clear hA hwa hkk
            cases rel with
            | true =>
              have hrl := arena_Release wa base (f k).b (f k).p s p0 g m h' _ _ _ _ _ _ x W (hMa.ar k hk4) hka hna (by omega) (by have := (hRT k hk4).1; omega) (hI.holds k hk4) (fun q hq => by have := hfk q hq; omega) (by omega)
              go_wp2_with fail
              rw [← HWA.out]
              with_reducible refine hrl.mono ?_
              rintro e w3 ⟨p3, rfl, ha3, hp3, hk3, hc3⟩
              have hcf : Ch (fun q => footA (f k) q ∨ q = g ∨ q = h') wa w3 := hc3.mono (fun q r => by
                rcases r with r | r
                · exact .inl (.inl r)
                · exact .inr (.inl r))
              have hM3 := hMa.step (a := ⟨(f k).b, p3, -1, 16, .slice none 0 0, .slice none 0 0, [], []⟩) hk4 hcf (by omega) ha3 (fun q hq => by
                rcases hq with r | r | r | r
                · exact .inl (.inl r)
                · exact .inr (by have : q = p3 := r; omega)
                · simp [Value.ownBlock] at r
                · simp [Value.ownBlock] at r)
              have hP3 := (hPa.ch hcf (fun q => (hsub B q).1 rfl)).updB (a := ⟨(f k).b, p3, -1, 16, .slice none 0 0, .slice none 0 0, [], []⟩) (k := k) rfl
              have zk3 := (hPa.ch hcf (fun q => (hsub B q).1 rfl)).cell hk4
              have hI3 := hI.release hk4 (a := ⟨(f k).b, p3, -1, 16, .slice none 0 0, .slice none 0 0, [], []⟩) rfl rfl rfl
              have hn3 := hna.ch hcf (fun q => by
                rcases q with r | r | r
                · have := hfk _ r; omega
                · omega
                · omega)
              have hG3 := hGa.andThen hcf (fun q r => .inl (by
                show w.heap.size ≤ q
                rcases r with r | r | r
                · have := hfk _ r; omega
                · omega
                · omega))
              have hs3 := hc3.size
              have hpg3 := arena_Pages w3 base _ _ _ _ _ _ _ _ _ ha3 ⟨by simp, fun r hr => by cases hr⟩
              rw [show ((pagesOf []).length : Int) = 0 from rfl] at hpg3
              have HI3 := Lib.hid hI3
              clear hrl hI3
              dsimp only
              go_wp2_with fail
              with_reducible refine hpg3.mono ?_
              rintro e w4 ⟨rfl, hc4⟩
              have zk4 := hc4.cell zk3 (fun q => q)
              have hth4 := arena_Things No w4 base _ _ _ _ _ _ _ _ _ (ha3.ch0 hc4) (by simp) (no_lt _)
              rw [List.length_nil] at hth4
              dsimp only
              go_wp2_with fail
              with_reducible refine hth4.mono ?_
              rintro e w5 ⟨q5, cq5, rfl, _, hc5⟩
              dsimp only
              go_wp2_with fail
              have hc35 := hc4.trans hc5
              have hsz := hc35.size
              go_roundw
              case rel => exact ⟨i + 1, _, _, W, by omega, by go_num, hM3.ch0 hc35, hP3.ch hc35 (fun q => q), hk3.ch0 hc35, HI3.out, by rw [givenBack_length]; exact hxl, fun j hj => by
                by_cases hjk : j = k
                · subst hjk; rw [upd_same]; exact ⟨Nat.zero_le _, Nat.zero_le _⟩
                · rw [upd_ne hjk]; have := hRT j hj; omega, hG3.then0 hc35, hn3.ch hc35 (fun q => q), by omega⟩
              case measure => exact meas_lt (by omega)
            | false =>
              have hpg := arena_Pages wa base _ _ _ _ _ _ _ _ _ (hMa.ar k hk4) hwk
              obtain ⟨P1, hP1⟩ : ∃ z, z = (pagesOf (f k).R).length := ⟨_, rfl⟩
              rw [← hP1] at hpg
              have HP1 := Lib.hid hP1
              clear hP1
              go_wp2_with fail
              rw [← HWA.out]
              with_reducible refine hpg.mono ?_
              rintro e w2b ⟨rfl, hc2b⟩
              clear hpg
              dsimp only
              obtain ⟨wd, hwd⟩ : ∃ z, z = w2b.drew := ⟨_, rfl⟩
              have hdr : Ch No wa wd := by rw [hwd]; exact hc2b.drew
              have hMd := hMa.ch0 hdr
              have hPd := hPa.ch hdr (fun q => q)
              have hkd := hka.ch0 hdr
              have hnd := hna.ch hdr (fun q => q)
              have hGd := hGa.then0 hdr
              have hdd := hdr.heap hda (fun q => q)
              have hsd := hdr.size
              have hst : wd.cell? ⟨B, k, none⟩ = some (.pointer (some ⟨(f k).b, 0, none⟩)) ∧ wd.cell? ⟨wr.heap.size, 1, none⟩ = some (.int .i64 sz) := ⟨hPd.cell hk4, cellOf hdd 1 rfl⟩
              have hallc := arena_Alloc wd base (f k).b (f k).p s p0 g m h' _ _ _ _ _ _ x W sz (hMd.ar k hk4) hkd hnd i1 (fun q hq => by have := hfk q hq; omega) (by omega) (by have := (hRT k hk4).1; omega) (by have := (hRT k hk4).2; omega)
              have HWD := Lib.hid hwd
              clear hwd
              go_wp2_with fail
              rw [HWD.out] at hst hallc
              refine wp_region_held_drew (S := (fun w' : World => w'.cell? ⟨B, k, none⟩ = some (.pointer (some ⟨(f k).b, 0, none⟩)) ∧ w'.cell? ⟨wr.heap.size, 1, none⟩ = some (.int .i64 sz))) (by kernel_rfl) hst (fun hHeld => ?_)
              refine wpAnyH_take (i := 0) (v := ?_) (by simp only [List.getElem?_toArray, List.getElem?_cons_zero, List.getElem?_cons_succ]; exact rfl) (by kernel_rfl) (by kernel_rfl) (by kernel_rfl) (by intro _ _ _ h; exact h) (Or.inl ⟨by rfl, ?_⟩) (by assumption) ?_
              rotate_left
              · intro w hSw
                (try dsimp only at hSw)
                go_simp
                try (with_reducible rfl)
              try simp only [Act.put, List.setIfInBounds_toArray, List.set_cons_zero, List.set_cons_succ]
              refine wpAnyH_take (i := 1) (v := ?_) (by simp only [List.getElem?_toArray, List.getElem?_cons_zero, List.getElem?_cons_succ]; exact rfl) (by kernel_rfl) (by kernel_rfl) (by kernel_rfl) (by intro _ _ _ h; exact h) (Or.inl ⟨by rfl, ?_⟩) (by assumption) ?_
              rotate_left
              · intro w hSw
                (try dsimp only at hSw)
                go_simp
                try (with_reducible rfl)
              try simp only [Act.put, List.setIfInBounds_toArray, List.set_cons_zero, List.set_cons_succ]
              refine wpAnyH_take (i := 2) (v := ?_) (by simp only [List.getElem?_toArray, List.getElem?_cons_zero, List.getElem?_cons_succ]; exact rfl) (by kernel_rfl) (by kernel_rfl) (by kernel_rfl) (by intro _ _ _ h; exact h) (Or.inl ⟨by rfl, ?_⟩) (by assumption) ?_
              rotate_left
              · intro w hSw
                (try dsimp only at hSw)
                go_simp
                try (with_reducible rfl)
              try simp only [Act.put, List.setIfInBounds_toArray, List.set_cons_zero, List.set_cons_succ]
              refine wpAnyH_take (i := 3) (v := ?_) (by simp only [List.getElem?_toArray, List.getElem?_cons_zero, List.getElem?_cons_succ]; exact rfl) (by kernel_rfl) (by kernel_rfl) (by kernel_rfl) (by intro _ _ _ h; exact h) (Or.inl ⟨by rfl, ?_⟩) (by assumption) ?_
              rotate_left
              · intro w hSw
                (try dsimp only at hSw)
                go_simp
                try (with_reducible rfl)
              try simp only [Act.put, List.setIfInBounds_toArray, List.set_cons_zero, List.set_cons_succ]
              refine wpAnyH_take (i := 4) (v := ?_) (by simp only [List.getElem?_toArray, List.getElem?_cons_zero, List.getElem?_cons_succ]; exact rfl) (by kernel_rfl) (by kernel_rfl) (by kernel_rfl) (by intro _ _ _ h; exact h) (Or.inl ⟨by rfl, ?_⟩) (by assumption) ?_
              rotate_left
              · intro w hSw
                (try dsimp only at hSw)
                go_simp
                try (with_reducible rfl)
              try simp only [Act.put, List.setIfInBounds_toArray, List.set_cons_zero, List.set_cons_succ]
              refine wpAnyH_ready (rs := [5]) (by kernel_rfl) (by simp) ?_
              refine AllReadyH.cons (by simp only [List.getElem?_toArray, List.getElem?_cons_zero, List.getElem?_cons_succ]; exact rfl) (fun K hK => ?_) AllReadyH.nil
              go_simp
              (go_at_call 8; (with_reducible refine hallc.mono ?_); rintro e w9 ⟨at_, E, x1, W1, pg1, us1, rv1, tv1, R1, T1, rfl, ha9, hk9, hc9, hf9, hto⟩; have hS9 : w9.cell? ⟨B, k, none⟩ = some (.pointer (some ⟨(f k).b, 0, none⟩)) ∧ w9.cell? ⟨wr.heap.size, 1, none⟩ = some (.int .i64 sz) := ⟨hc9.cell hst.1 hFB, hc9.cell hst.2 hFb⟩; (try dsimp only))
              try go_wp2_with fail
              refine hK.out _ _ ?_ (fun hHeld => ?_)
              · try dsimp only
                first | assumption | exact (by assumption) | fail
              clear hK K
              try simp only [Act.put, List.setIfInBounds_toArray, List.set_cons_zero, List.set_cons_succ]
              refine wpAnyH_take (i := 6) (v := ?_) (by simp only [List.getElem?_toArray, List.getElem?_cons_zero, List.getElem?_cons_succ]; exact rfl) (by kernel_rfl) (by kernel_rfl) (by kernel_rfl) (by intro _ _ _ h; exact h) (Or.inl ⟨by rfl, ?_⟩) (by assumption) ?_
              rotate_left
              · intro w hSw
                (try dsimp only at hSw)
                go_simp
                try (with_reducible rfl)
              try simp only [Act.put, List.setIfInBounds_toArray, List.set_cons_zero, List.set_cons_succ]
              refine wpAnyH_take (i := 7) (v := ?_) (by simp only [List.getElem?_toArray, List.getElem?_cons_zero, List.getElem?_cons_succ]; exact rfl) (by kernel_rfl) (by kernel_rfl) (by kernel_rfl) (by intro _ _ _ h; exact h) (Or.inl ⟨by rfl, ?_⟩) (by assumption) ?_
              rotate_left
              · intro w hSw
                (try dsimp only at hSw)
                go_simp
                try (with_reducible rfl)
              try simp only [Act.put, List.setIfInBounds_toArray, List.set_cons_zero, List.set_cons_succ]
              refine wpAnyH_take (i := 8) (v := ?_) (by simp only [List.getElem?_toArray, List.getElem?_cons_zero, List.getElem?_cons_succ]; exact rfl) (by kernel_rfl) (by kernel_rfl) (by kernel_rfl) (by intro _ _ _ h; exact h) (Or.inl ⟨by rfl, ?_⟩) (by assumption) ?_
              rotate_left
              · intro w hSw
                (try dsimp only at hSw)
                go_simp
                try (with_reducible rfl)
              try simp only [Act.put, List.setIfInBounds_toArray, List.set_cons_zero, List.set_cons_succ]
              refine wpAnyH_take (i := 9) (v := ?_) (by simp only [List.getElem?_toArray, List.getElem?_cons_zero, List.getElem?_cons_succ]; exact rfl) (by kernel_rfl) (by kernel_rfl) (by kernel_rfl) (by intro _ _ _ h; exact h) (Or.inl ⟨by rfl, ?_⟩) (by assumption) ?_
              rotate_left
              · intro w hSw
                (try dsimp only at hSw)
                go_simp
                try (with_reducible rfl)
              try simp only [Act.put, List.setIfInBounds_toArray, List.set_cons_zero, List.set_cons_succ]
              refine wpAnyH_take (i := 10) (v := ?_) (by simp only [List.getElem?_toArray, List.getElem?_cons_zero, List.getElem?_cons_succ]; exact rfl) (by kernel_rfl) (by kernel_rfl) (by kernel_rfl) (by intro _ _ _ h; exact h) (Or.inl ⟨by rfl, ?_⟩) (by assumption) ?_
              rotate_left
              · intro w hSw
                (try dsimp only at hSw)
                go_simp
                try (with_reducible rfl)
              try simp only [Act.put, List.setIfInBounds_toArray, List.set_cons_zero, List.set_cons_succ]
              refine wpAnyH_done (by kernel_rfl) ?_ _
              rw [← HWD.out] at hc9 hf9
              obtain ⟨w3, hw3⟩ : ∃ z, z = w9 := ⟨_, rfl⟩
              rw [← hw3] at ha9 hk9 hc9 hS9 ⊢
              clear hw3 hallc
              have hmo := hto.more
              have hs3 := hc9.size
              have hM3 := hMd.step (a := ⟨(f k).b, (f k).p, pg1, us1, rv1, tv1, R1, T1⟩) hk4 hc9 (by omega) ha9 hf9
              have hP3 := (hPd.ch hc9 (fun q => (hsub B q).1 rfl)).updB (a := ⟨(f k).b, (f k).p, pg1, us1, rv1, tv1, R1, T1⟩) (k := k) rfl
              obtain ⟨hI3, hat⟩ := hI.alloc hk4 (by omega) (a := ⟨(f k).b, (f k).p, pg1, us1, rv1, tv1, R1, T1⟩) hto
              have hn3 := hnd.ch hc9 (fun q => by
                rcases q with r | r | r
                · have := hfk _ r; omega
                · omega
                · omega)
              have hG3 := hGd.andThen hc9 (fun q r => .inl (by
                show w.heap.size ≤ q
                rcases r with r | r | r
                · have := hfk _ r; omega
                · omega
                · omega))
              have hd3 := hc9.heap hdd (fun q => (hsub wr.heap.size q).2 rfl)
              have hRT3 : ∀ j, j < 4 → (upd f k ⟨(f k).b, (f k).p, pg1, us1, rv1, tv1, R1, T1⟩ j).R.length ≤ i + 1 ∧ (upd f k ⟨(f k).b, (f k).p, pg1, us1, rv1, tv1, R1, T1⟩ j).T.length ≤ i + 1 := fun j hj => by
                have := hRT j hj
                by_cases hjk : j = k
                · subst hjk; rw [upd_same]; dsimp only; omega
                · rw [upd_ne hjk]; omega
              have hxl3 : x1.length = N := by omega
              have HTO := Lib.hid hto
              have HI3 := Lib.hid hI3
              clear hto hI3
              by_cases hE : E = 0
              · subst hE
                obtain ⟨hz1, hz2, hz3⟩ := hat rfl
                obtain ⟨AT, rfl⟩ : ∃ AT : Nat, at_ = (AT : Int) := ⟨at_.toNat, by omega⟩
                obtain ⟨SZ, rfl⟩ : ∃ SZ : Nat, sz = (SZ : Int) := ⟨sz.toNat, by omega⟩
                have hwk3 : Within11 R1 := by
                  have h1 := HI3.out.holds k hk4
                  rw [upd_same] at h1
                  exact h1.within (by have := (hRT k hk4).1; dsimp only; omega) (by omega)
                have hpg3 := arena_Pages w3 base _ _ _ _ _ _ _ _ _ ha9 hwk3
                obtain ⟨P2, hP2⟩ : ∃ z, z = (pagesOf R1).length := ⟨_, rfl⟩
                rw [← hP2] at hpg3
                have HP2 := Lib.hid hP2
                have z3 := hS9.1
                have ew : IntKind.i64.wrap ((AT : Int) + (SZ : Int)) = (AT : Int) + (SZ : Int) := IntWalk.i64_in _ (by omega)
                clear hP2 hat
                go_wp2_with fail
                with_reducible refine hpg3.mono ?_
                rintro e w4 ⟨rfl, hc4⟩
                have hk4' := hk9.ch0 hc4
                have hd4 := hc4.heap hd3 (fun q => q)
                have y14 := cellOf hd4 1 rfl
                have hs4 := hc4.size
                have hWl : W1.length = 16 * x1.length := hk9.len
                clear hpg3
                -- the fill, in whichever world
                have hfin : ∀ W', Ch No w4 W' → Calls Tryd.prog 21 #[.pointer (some ⟨s, 0, none⟩)] W' (fun e w' => e = .returned (.pointer (some ⟨m, 0, none⟩)) ∧ W' = w') ∧
                    Calls Tryd.prog 23 #[.pointer (some ⟨m, 0, none⟩), .agg #[.int .i64 (AT : Int), .int .i64 (SZ : Int)], .int .u64 7] W' (fun e w' => e = .returned (.int .i64 0) ∧ PagesAt w' s p0 g m h' x1 (fillL W1 AT 7 SZ) ∧ Ch (One h') W' w') := fun W' hc => by
                  have hkW := hk4'.ch0 hc
                  refine ⟨pages_Mem W' s p0 g m h' x1 W1 hkW, (words_Fill W' m h' W1 AT SZ 7 hkW.mem (by omega) ⟨by decide, by decide⟩).mono ?_⟩
                  rintro e w' ⟨he, hm', hc'⟩
                  exact ⟨he, hkW.wrote hm' hc' (fillL_length _ _ _ _), hc'⟩
                have hst32 : w4.drew.cell? ⟨wr.heap.size, 1, none⟩ = some (.int .i64 (SZ : Int)) := y14
                have hdr32 : Ch No w4 w4.drew := (Ch.refl No w4).drew
                obtain ⟨hmem, hfill⟩ := hfin w4.drew hdr32
                have hwrh : ¬ (One h') wr.heap.size := fun q => by have : wr.heap.size = h' := q; omega
                have hwrB : ¬ (One h') B := fun q => by have : B = h' := q; omega
                clear hfin
                by_cases hmore : P1 < P2
                · have bm : decide ((P2 : Int) > (P1 : Int)) = true := decide_eq_true (by omega)
                  have hzero := HTO.out.zero (by omega) (by rw [hkd.len]) rfl (by rw [← HP1.out, ← HP2.out]; exact hmore)
                  have HZ := Lib.hid hzero
                  clear hzero
                  go_wp2_with fail
                  go_loopw [15] (fun v wq => ∃ j : Nat, AT ≤ j ∧ j ≤ AT + SZ ∧ v = .int .i64 j ∧ w4 = wq) (fun v _ => AT + SZ - (intOf v).toNat)
                  case atStart => exact ⟨AT, by omega, by omega, rfl, rfl⟩
                  case round =>
                    obtain ⟨j, hj1, hj2, rfl, rfl⟩ := hrel
                    by_cases hj : j < AT + SZ
                    · have bj : decide ((j : Int) < (AT : Int) + (SZ : Int)) = true := decide_eq_true (by omega)
                      have hrd := words_Read w4 m h' W1 j hk4'.mem (by omega)
                      rw [HZ.out j (by omega) (by omega)] at hrd
                      go_wp2_with fail
                      with_reducible refine (pages_Mem w4 s p0 g m h' x1 W1 hk4').mono ?_
                      rintro e w' ⟨rfl, rfl⟩
                      dsimp only
                      go_wp2_with fail
                      with_reducible refine hrd.mono ?_
                      rintro e w' ⟨rfl, rfl⟩
                      dsimp only
                      go_wp2_with fail
                      go_roundw
                      case rel => exact ⟨j + 1, by omega, by omega, by go_num, by first | rfl | trivial⟩
                      case measure => exact meas_lt (by omega)
                    · have bj : decide ((j : Int) < (AT : Int) + (SZ : Int)) = false := decide_eq_false (by omega)
                      go_wp2_with fail
                      refine wp_region_held_drew (S := (fun w' : World => w'.cell? ⟨wr.heap.size, 1, none⟩ = some (.int .i64 (SZ : Int)))) (by kernel_rfl) hst32 (fun hHeld => ?_)
                      refine wpAnyH_take (i := 0) (v := ?_) (by simp only [List.getElem?_toArray, List.getElem?_cons_zero, List.getElem?_cons_succ]; exact rfl) (by kernel_rfl) (by kernel_rfl) (by kernel_rfl) (by intro _ _ _ h; exact h) (Or.inl ⟨by rfl, ?_⟩) (by assumption) ?_
                      rotate_left
                      · intro w hSw
                        (try dsimp only at hSw)
                        go_simp
                        try (with_reducible rfl)
                      try simp only [Act.put, List.setIfInBounds_toArray, List.set_cons_zero, List.set_cons_succ]
                      refine wpAnyH_take (i := 2) (v := ?_) (by simp only [List.getElem?_toArray, List.getElem?_cons_zero, List.getElem?_cons_succ]; exact rfl) (by kernel_rfl) (by kernel_rfl) (by kernel_rfl) (by intro _ _ _ h; exact h) (Or.inl ⟨by rfl, ?_⟩) (by assumption) ?_
                      rotate_left
                      · intro w hSw
                        (try dsimp only at hSw)
                        go_simp
                        try (with_reducible rfl)
                      try simp only [Act.put, List.setIfInBounds_toArray, List.set_cons_zero, List.set_cons_succ]
                      refine wpAnyH_take (i := 3) (v := ?_) (by simp only [List.getElem?_toArray, List.getElem?_cons_zero, List.getElem?_cons_succ]; exact rfl) (by kernel_rfl) (by kernel_rfl) (by kernel_rfl) (by intro _ _ _ h; exact h) (Or.inl ⟨by rfl, ?_⟩) (by assumption) ?_
                      rotate_left
                      · intro w hSw
                        (try dsimp only at hSw)
                        go_simp
                        try (with_reducible rfl)
                      try simp only [Act.put, List.setIfInBounds_toArray, List.set_cons_zero, List.set_cons_succ]
                      refine wpAnyH_take (i := 4) (v := ?_) (by simp only [List.getElem?_toArray, List.getElem?_cons_zero, List.getElem?_cons_succ]; exact rfl) (by kernel_rfl) (by kernel_rfl) (by kernel_rfl) (by intro _ _ _ h; exact h) (Or.inl ⟨by rfl, ?_⟩) (by assumption) ?_
                      rotate_left
                      · intro w hSw
                        (try dsimp only at hSw)
                        go_simp
                        try (with_reducible rfl)
                      try simp only [Act.put, List.setIfInBounds_toArray, List.set_cons_zero, List.set_cons_succ]
                      refine wpAnyH_take (i := 5) (v := ?_) (by simp only [List.getElem?_toArray, List.getElem?_cons_zero, List.getElem?_cons_succ]; exact rfl) (by kernel_rfl) (by kernel_rfl) (by kernel_rfl) (by intro _ _ _ h; exact h) (Or.inl ⟨by rfl, ?_⟩) (by assumption) ?_
                      rotate_left
                      · intro w hSw
                        (try dsimp only at hSw)
                        go_simp
                        try (with_reducible rfl)
                      try simp only [Act.put, List.setIfInBounds_toArray, List.set_cons_zero, List.set_cons_succ]
                      refine wpAnyH_ready (rs := [1]) (by kernel_rfl) (by simp) ?_
                      refine AllReadyH.cons (by simp only [List.getElem?_toArray, List.getElem?_cons_zero, List.getElem?_cons_succ]; exact rfl) (fun K hK => ?_) AllReadyH.nil
                      go_simp
                      (go_at_call 21; (with_reducible refine hmem.mono ?_); rintro e w9 ⟨rfl, rfl⟩; (try dsimp only))
                      try go_wp2_with fail
                      refine hK.out _ _ ?_ (fun hHeld => ?_)
                      · try dsimp only
                        first | assumption | exact (by assumption) | fail
                      clear hK K
                      try simp only [Act.put, List.setIfInBounds_toArray, List.set_cons_zero, List.set_cons_succ]
                      refine wpAnyH_ready (rs := [6]) (by kernel_rfl) (by simp) ?_
                      refine AllReadyH.cons (by simp only [List.getElem?_toArray, List.getElem?_cons_zero, List.getElem?_cons_succ]; exact rfl) (fun K hK => ?_) AllReadyH.nil
                      go_simp
                      (go_at_call 23; (with_reducible refine hfill.mono ?_); rintro e w9 ⟨rfl, hk9b, hc9b⟩; have hS9b := hc9b.cell hst32 hwrh; (try dsimp only))
                      try go_wp2_with fail
                      refine hK.out _ _ ?_ (fun hHeld => ?_)
                      · try dsimp only
                        first | assumption | exact (by assumption) | fail
                      clear hK K
                      try simp only [Act.put, List.setIfInBounds_toArray, List.set_cons_zero, List.set_cons_succ]
                      refine wpAnyH_done (by kernel_rfl) ?_ _
                      have hcF : Ch No w3 w4.drew := hc4.trans hdr32
                      have hsF := hc9b.size
                      have hsG := hdr32.size
                      try go_wp2_with fail
                      go_roundw
                      case rel => exact ⟨i + 1, _, _, _, by omega, by go_num, (hM3.ch0 hcF).ch hc9b (fun q r => .inl (by have : q = h' := r; omega)), (hP3.ch hcF (fun q => q)).ch hc9b hwrB, hk9b, HI3.out, hxl3, hRT3, (hG3.then0 hcF).andThen hc9b (fun q r => .inl (by have : q = h' := r; show w.heap.size ≤ q; omega)), (hn3.ch hcF (fun q => q)).ch hc9b (fun q => by have : 0 = h' := q; omega), by omega⟩
                      case measure => exact meas_lt (by omega)
                · have bm : decide ((P2 : Int) > (P1 : Int)) = false := decide_eq_false (by omega)
                  go_wp2_with fail
                  refine wp_region_held_drew (S := (fun w' : World => w'.cell? ⟨wr.heap.size, 1, none⟩ = some (.int .i64 (SZ : Int)))) (by kernel_rfl) hst32 (fun hHeld => ?_)
                  refine wpAnyH_take (i := 0) (v := ?_) (by simp only [List.getElem?_toArray, List.getElem?_cons_zero, List.getElem?_cons_succ]; exact rfl) (by kernel_rfl) (by kernel_rfl) (by kernel_rfl) (by intro _ _ _ h; exact h) (Or.inl ⟨by rfl, ?_⟩) (by assumption) ?_
                  rotate_left
                  · intro w hSw
                    (try dsimp only at hSw)
                    go_simp
                    try (with_reducible rfl)
                  try simp only [Act.put, List.setIfInBounds_toArray, List.set_cons_zero, List.set_cons_succ]
                  refine wpAnyH_take (i := 2) (v := ?_) (by simp only [List.getElem?_toArray, List.getElem?_cons_zero, List.getElem?_cons_succ]; exact rfl) (by kernel_rfl) (by kernel_rfl) (by kernel_rfl) (by intro _ _ _ h; exact h) (Or.inl ⟨by rfl, ?_⟩) (by assumption) ?_
                  rotate_left
                  · intro w hSw
                    (try dsimp only at hSw)
                    go_simp
                    try (with_reducible rfl)
                  try simp only [Act.put, List.setIfInBounds_toArray, List.set_cons_zero, List.set_cons_succ]
                  refine wpAnyH_take (i := 3) (v := ?_) (by simp only [List.getElem?_toArray, List.getElem?_cons_zero, List.getElem?_cons_succ]; exact rfl) (by kernel_rfl) (by kernel_rfl) (by kernel_rfl) (by intro _ _ _ h; exact h) (Or.inl ⟨by rfl, ?_⟩) (by assumption) ?_
                  rotate_left
                  · intro w hSw
                    (try dsimp only at hSw)
                    go_simp
                    try (with_reducible rfl)
                  try simp only [Act.put, List.setIfInBounds_toArray, List.set_cons_zero, List.set_cons_succ]
                  refine wpAnyH_take (i := 4) (v := ?_) (by simp only [List.getElem?_toArray, List.getElem?_cons_zero, List.getElem?_cons_succ]; exact rfl) (by kernel_rfl) (by kernel_rfl) (by kernel_rfl) (by intro _ _ _ h; exact h) (Or.inl ⟨by rfl, ?_⟩) (by assumption) ?_
                  rotate_left
                  · intro w hSw
                    (try dsimp only at hSw)
                    go_simp
                    try (with_reducible rfl)
                  try simp only [Act.put, List.setIfInBounds_toArray, List.set_cons_zero, List.set_cons_succ]
                  refine wpAnyH_take (i := 5) (v := ?_) (by simp only [List.getElem?_toArray, List.getElem?_cons_zero, List.getElem?_cons_succ]; exact rfl) (by kernel_rfl) (by kernel_rfl) (by kernel_rfl) (by intro _ _ _ h; exact h) (Or.inl ⟨by rfl, ?_⟩) (by assumption) ?_
                  rotate_left
                  · intro w hSw
                    (try dsimp only at hSw)
                    go_simp
                    try (with_reducible rfl)
                  try simp only [Act.put, List.setIfInBounds_toArray, List.set_cons_zero, List.set_cons_succ]
                  refine wpAnyH_ready (rs := [1]) (by kernel_rfl) (by simp) ?_
                  refine AllReadyH.cons (by simp only [List.getElem?_toArray, List.getElem?_cons_zero, List.getElem?_cons_succ]; exact rfl) (fun K hK => ?_) AllReadyH.nil
                  go_simp
                  (go_at_call 21; (with_reducible refine hmem.mono ?_); rintro e w9 ⟨rfl, rfl⟩; (try dsimp only))
                  try go_wp2_with fail
                  refine hK.out _ _ ?_ (fun hHeld => ?_)
                  · try dsimp only
                    first | assumption | exact (by assumption) | fail
                  clear hK K
                  try simp only [Act.put, List.setIfInBounds_toArray, List.set_cons_zero, List.set_cons_succ]
                  refine wpAnyH_ready (rs := [6]) (by kernel_rfl) (by simp) ?_
                  refine AllReadyH.cons (by simp only [List.getElem?_toArray, List.getElem?_cons_zero, List.getElem?_cons_succ]; exact rfl) (fun K hK => ?_) AllReadyH.nil
                  go_simp
                  (go_at_call 23; (with_reducible refine hfill.mono ?_); rintro e w9 ⟨rfl, hk9b, hc9b⟩; have hS9b := hc9b.cell hst32 hwrh; (try dsimp only))
                  try go_wp2_with fail
                  refine hK.out _ _ ?_ (fun hHeld => ?_)
                  · try dsimp only
                    first | assumption | exact (by assumption) | fail
                  clear hK K
                  try simp only [Act.put, List.setIfInBounds_toArray, List.set_cons_zero, List.set_cons_succ]
                  refine wpAnyH_done (by kernel_rfl) ?_ _
                  have hcF : Ch No w3 w4.drew := hc4.trans hdr32
                  have hsF := hc9b.size
                  have hsG := hdr32.size
                  try go_wp2_with fail
                  go_roundw
                  case rel => exact ⟨i + 1, _, _, _, by omega, by go_num, (hM3.ch0 hcF).ch hc9b (fun q r => .inl (by have : q = h' := r; omega)), (hP3.ch hcF (fun q => q)).ch hc9b hwrB, hk9b, HI3.out, hxl3, hRT3, (hG3.then0 hcF).andThen hc9b (fun q r => .inl (by have : q = h' := r; show w.heap.size ≤ q; omega)), (hn3.ch hcF (fun q => q)).ch hc9b (fun q => by have : 0 = h' := q; omega), by omega⟩
                  case measure => exact meas_lt (by omega)
              · have bE : (E != 0) = true := by simpa using hE
                go_wp2_with fail
                go_roundw
                case rel => exact ⟨i + 1, _, _, _, by omega, by go_num, hM3, hP3, hk9, HI3.out, hxl3, hRT3, hG3, hn3, by omega⟩
                case measure => exact meas_lt (by omega)
          · obtain rfl : i = l.length := by omega
            have z0 := hP.cell (i := 0) (by omega)
            have z1 := hP.cell (i := 1) (by omega)
            have z2 := hP.cell (i := 2) (by omega)
            have z3 := hP.cell (i := 3) (by omega)
            obtain ⟨bs, hbs⟩ : ∃ z, z = wr.heap.size := ⟨_, rfl⟩
            have hbs2 : base ≤ bs := by omega
            have hRTl := allT_length (f := f) (n := 80) (fun j hj => by have := (hRT j hj).2; omega)
            have hRT80 : ∀ j, j < 4 → (f j).R.length ≤ 80 ∧ (f j).T.length ≤ 80 := fun j hj => by have := hRT j hj; omega
            have hbs3 : bs ≤ wr.heap.size ∧ wr.heap.size ≤ bs := by omega
            obtain ⟨w5, hw5⟩ : ∃ z, z = wr := ⟨_, rfl⟩
            rw [← hw5] at hM hk hG hnr hbs3 z0 z1 z2 z3 ⊢
            have hMW : ∀ W', Ch (fun k => bs ≤ k) w5 W' → Many11 4 W' base s f := fun W' hc => hM.ch hc (fun q r => .inr (by have : bs ≤ q := r; omega))
            clear hbs hRT hP hw5
            go_wp2_with fail
            go_loopw [18, 19, 142] (fun ow v ix wq => ∃ i : Nat, i ≤ 4 ∧ ix = .int .i64 i ∧ ow = .int .i64 (ownedTo f i) ∧ OwnR (pairRp .i64) bs 37 No wq v (allT f i) ∧ Ch (fun k => bs ≤ k) w5 wq ∧ ownedTo f i ≤ i * 2000000) (fun _ _ ix _ => 4 - (intOf ix).toNat)
            case atStart => exact ⟨0, by omega, rfl, rfl, OwnR.nilR _ _ _ _ _, Ch.refl _ _, by simp [ownedTo]⟩
            case round =>
              obtain ⟨i, hi, rfl, rfl, ho, hcq, how⟩ := hrel
              by_cases hi4 : i < 4
              · have hi4i : (i : Int) < 4 := by omega
                have hszq := hcq.size
                have hMq := hMW wr hcq
                have hfi : ∀ q, footA (f i) q → base ≤ q ∧ q < bs := fun q hq => by have := hM.bd hi4 hq; omega
                have hidx : ((#[.pointer (some ⟨(f 0).b, 0, none⟩), .pointer (some ⟨(f 1).b, 0, none⟩), .pointer (some ⟨(f 2).b, 0, none⟩), .pointer (some ⟨(f 3).b, 0, none⟩)] : Array Value)[i]?) = some (.pointer (some ⟨(f i).b, 0, none⟩)) := by
                  have : i = 0 ∨ i = 1 ∨ i = 2 ∨ i = 3 := by omega
                  rcases this with rfl | rfl | rfl | rfl <;> rfl
                have hrun : (Instr.index 49 (.agg #[.pointer (some ⟨(f 0).b, 0, none⟩), .pointer (some ⟨(f 1).b, 0, none⟩), .pointer (some ⟨(f 2).b, 0, none⟩), .pointer (some ⟨(f 3).b, 0, none⟩)]) (.int .i64 (i : Int))).run Tryd.prog wr = .ok (.pointer (some ⟨(f i).b, 0, none⟩)) wr := by
                  have : i = 0 ∨ i = 1 ∨ i = 2 ∨ i = 3 := by omega
                  rcases this with rfl | rfl | rfl | rfl <;> rfl
                have hwi : Within11 (f i).R := (hI.holds i hi4).within (by have := (hRT80 i hi4).1; omega) (by omega)
                have hpgi := arena_Pages wr base _ _ _ _ _ _ _ _ _ (hMq.ar i hi4) hwi
                have hmn := hwi.many
                have ewo : IntKind.i64.wrap ((ownedTo f i : Int) + ((pagesOf (f i).R).length : Int)) = (ownedTo f (i + 1) : Int) := by
                  rw [IntWalk.i64_in _ (by omega)]; simp [ownedTo]
                have hon : ownedTo f (i + 1) ≤ (i + 1) * 2000000 := by simp only [ownedTo]; omega
                obtain ⟨O1, hO1⟩ : ∃ z, z = ownedTo f (i + 1) := ⟨_, rfl⟩
                obtain ⟨O0, hO0⟩ : ∃ z, z = ownedTo f i := ⟨_, rfl⟩
                obtain ⟨Pi, hPi⟩ : ∃ z, z = (pagesOf (f i).R).length := ⟨_, rfl⟩
                rw [← hO0, ← hO1, ← hPi] at ewo
                rw [← hPi] at hpgi
                rw [← hO0]
                have HO1 := Lib.hid hO1
                clear hO1 hO0 hPi
                obtain ⟨v0, hv0⟩ : ∃ z, z = u19 := ⟨_, rfl⟩
                rw [← hv0] at ho ⊢
                have hTl := (hRT80 i hi4).2
                have hLl := hRTl i hi
                clear hv0
                go_wp2_with fail
                with_reducible refine hpgi.mono ?_
                rintro e w3 ⟨rfl, hc3⟩
                have ho3 := ho.ch0 hc3
                have hcq3 := hcq.then0 hc3
                have hth := arena_Things (fun k => v0.ownBlock = some k) w3 base _ _ _ _ _ _ _ _ _ ((hMW w3 hcq3).ar i hi4) (by omega) (fun k q => (ho3.blk k q).2)
                clear hpgi
                dsimp only
                go_wp2_with fail
                with_reducible refine hth.mono ?_
                rintro e w4 ⟨q5, cq5, rfl, hs5, hc4⟩
                have ho4 := ho3.ch0 hc4
                have hcq4 := hcq3.then0 hc4
                clear hth
                dsimp only
                obtain ⟨T, hT⟩ : ∃ z, z = (f i).T := ⟨_, rfl⟩
                rw [← hT] at hs5 hTl ⊢
                have hTm : ∀ c, ∀ h : c < T.length, T[c] ∈ (f i).T := fun c h => by subst hT; exact List.getElem_mem h
                have hTo : ∀ c, ∀ h : c < T.length, ∀ y ∈ allT f i ++ T.take c, Off y T[c] := fun c h y hy => by subst hT; exact hI.offT hi4 h hy
                have hLm : ∀ c, ∀ y ∈ allT f i ++ T.take c, 0 ≤ y.1 ∧ 0 ≤ y.2 ∧ y.1 + y.2 ≤ 960 := fun c y hy => by
                  have : ∃ j, j < 4 ∧ y ∈ (f j).T := by
                    rcases List.mem_append.1 hy with hy | hy
                    · obtain ⟨j, hj, hu⟩ := mem_allT hy
                      exact ⟨j, by omega, hu⟩
                    · exact ⟨i, hi4, by subst hT; exact List.mem_of_mem_take hy⟩
                  obtain ⟨j, hj, hu⟩ := this
                  have := hI.hasT hj hu
                  omega
                have hTL : allT f (i + 1) = allT f i ++ T := by rw [hT]; rfl
                have HTL := Lib.hid hTL
                have HT := Lib.hid hT
                clear hT hTL
                go_wp2_with fail
                go_loopw [19, 152] (fun v ix wq => ∃ c : Nat, c ≤ T.length ∧ ix = .int .i64 c ∧ OwnR (pairRp .i64) bs 37 No wq v (allT f i ++ T.take c) ∧ Ch (fun k => bs ≤ k) w5 wq ∧ (∀ k, v.ownBlock = some k → v0.ownBlock = some k ∨ w4.heap.size ≤ k) ∧ Ch (fun k => v0.ownBlock = some k) w4 wq) (fun _ ix _ => T.length - (intOf ix).toNat)
                case atStart => exact ⟨0, by omega, rfl, by simpa using ho4, hcq4, fun k q => .inl q, Ch.refl _ _⟩
                case round =>
                  obtain ⟨c, hc, rfl, hov, hcv, hbv, hc5⟩ := hrel
                  by_cases hcT : c < T.length
                  · obtain ⟨bq, off, rfl, _, _, d0, d1, _, _⟩ := ((hs5.more (F' := fun k => v0.ownBlock = some k ∨ w4.heap.size ≤ k) (fun k q => q)).ch hc5 (fun k q => .inl q)).pair_at c hcT
                    obtain ⟨hr1, hr0, hr2, hha, hhb⟩ := hI.hasT hi4 (hTm c hcT)
                    have hoff := hTo c hcT
                    have htk : T.take (c + 1) = T.take c ++ [T[c]] := List.take_succ_eq_append_getElem hcT
                    obtain ⟨r, hr⟩ : ∃ z, z = T[c] := ⟨_, rfl⟩
                    rw [← hr] at d0 d1 hr1 hr0 hr2 hha hhb hoff htk
                    obtain ⟨r1, r2⟩ := r
                    dsimp only at d0 d1 hr1 hr0 hr2 hha hhb
                    have hszr := hcv.size
                    obtain ⟨wa, hwa⟩ : ∃ z, z = wr.alloc (.cells #[.int .i64 r1, .int .i64 r2] 37) := ⟨_, rfl⟩
                    have hala : Ch No wr wa := by rw [hwa]; exact (Ch.refl _ _).alloc _
                    have hda : wa.heap[wr.heap.size]? = some (.cells #[.int .i64 r1, .int .i64 r2] 37 (0, 0)) := by rw [hwa]; exact World.alloc_heap_new _ _
                    have hmr := (hMW wa (hcv.then0 hala)).ar i hi4
                    have b1 : decide (r2 < 1) = false := decide_eq_false (by omega)
                    have e1 : IntKind.i64.wrap (r1 + r2) = r1 + r2 := IntWalk.i64_in _ (by omega)
                    have e2 : IntKind.i64.wrap (r1 + r2 - 1) = r1 + r2 - 1 := IntWalk.i64_in _ (by omega)
                    have hh1 := arena_Has wa base _ _ _ _ _ _ _ _ _ r1 hmr hwi (show _ ∧ _ from by omega)
                    rw [decide_eq_true hha] at hh1
                    obtain ⟨q6, c6, rfl, hs6⟩ := (hov.pairs_any No).sl (no_lt _)
                    obtain ⟨L6, hL6⟩ : ∃ z, z = allT f i ++ T.take c := ⟨_, rfl⟩
                    have hL6l : L6.length ≤ 1000 := by rw [hL6, List.length_append, List.length_take]; omega
                    have hL6m : ∀ y ∈ L6, 0 ≤ y.1 ∧ 0 ≤ y.2 ∧ y.1 + y.2 ≤ 960 := by rw [hL6]; exact hLm c
                    have hT7 : allT f i ++ T.take (c + 1) = L6 ++ [(r1, r2)] := by rw [htk, hL6, List.append_assoc]
                    rw [← hL6] at hov hs6 hoff hbv ⊢
                    have HWA := Lib.hid hwa
                    have HT7 := Lib.hid hT7
                    clear hwa hr htk hL6 hT7 hha
                    go_wp2_with fail
                    rw [← HWA.out]
                    with_reducible refine hh1.mono ?_
                    rintro e w6 ⟨rfl, hc6⟩
                    have hd6 := hc6.heap hda (fun q => q)
                    have y0 := cellOf hd6 0 rfl
                    have y1 := cellOf hd6 1 rfl
                    have hh2 := arena_Has w6 base _ _ _ _ _ _ _ _ _ (r1 + r2 - 1) (hmr.ch0 hc6) hwi (show _ ∧ _ from by omega)
                    rw [decide_eq_true hhb] at hh2
                    clear hh1
                    dsimp only
                    go_wp2_with fail
                    with_reducible refine hh2.mono ?_
                    rintro e w7 ⟨rfl, hc7⟩
                    have hd7 := hc7.heap hd6 (fun q => q)
                    have hc37 := (hala.trans hc6).trans hc7
                    have hs7 := hs6.ch0 hc37
                    have hov7 := hov.ch0 hc37
                    have hsz7 := hc37.size
                    have hsa1 := hala.size
                    clear hh2 b1
                    dsimp only
                    go_wp2_with fail
                    go_loopw [179] (fun ix wq => ∃ d : Nat, d ≤ L6.length ∧ ix = .int .i64 d ∧ Ch No w7 wq) (fun ix _ => L6.length - (intOf ix).toNat)
                    case atStart => exact ⟨0, by omega, rfl, Ch.refl _ _⟩
                    case round =>
                      obtain ⟨d, hd, rfl, hc9⟩ := hrel
                      have hd9 := hc9.heap hd7 (fun q => q)
                      have y0 := cellOf hd9 0 rfl
                      have y1 := cellOf hd9 1 rfl
                      by_cases hdl : d < L6.length
                      · obtain ⟨bq6, off6, rfl, _, _, g0, g1, _, _⟩ := (hs7.ch0 hc9).pair_at d hdl
                        have hy := hL6m _ (List.getElem_mem hdl)
                        have hof : L6[d].1 + L6[d].2 ≤ r1 ∨ r1 + r2 ≤ L6[d].1 := hoff _ (List.getElem_mem hdl)
                        obtain ⟨y, hyy⟩ : ∃ z, z = L6[d] := ⟨_, rfl⟩
                        rw [← hyy] at g0 g1 hy hof
                        obtain ⟨ya, yb⟩ := y
                        dsimp only at g0 g1 hy hof
                        have e3 : IntKind.i64.wrap (ya + yb) = ya + yb := IntWalk.i64_in _ (by omega)
                        have al9 : Ch No wr (wr.alloc (.cells #[.int .i64 ya, .int .i64 yb] 37)) := (Ch.refl _ _).alloc _
                        have y0 := al9.cell y0 (fun q => q)
                        have y1 := al9.cell y1 (fun q => q)
                        have hcF := hc9.trans al9
                        have HF := Lib.hid hcF
                        clear hyy hcF al9
                        by_cases hlt : r1 < ya + yb
                        · have b1 : decide (r1 < ya + yb) = true := decide_eq_true hlt
                          have b2 : decide (ya < r1 + r2) = false := decide_eq_false (by omega)
                          go_wp2_with fail
                          go_roundw
                          case rel => exact ⟨d + 1, by omega, by go_num, HF.out⟩
                          case measure => exact meas_lt (by omega)
                        · have b1 : decide (r1 < ya + yb) = false := decide_eq_false hlt
                          go_wp2_with fail
                          go_roundw
                          case rel => exact ⟨d + 1, by omega, by go_num, HF.out⟩
                          case measure => exact meas_lt (by omega)
                      · obtain rfl : d = L6.length := by omega
                        have hov9 := hov7.ch0 hc9
                        have hcv9 := (hcv.then0 hc37).then0 hc9
                        have hc59 := (hc5.then0 hc37).then0 hc9
                        have hsz9 := hc9.size
                        have hsz5 := hc5.size
                        go_wp2_with (at_builtin; go_loud (refine wpL_pushK rfl _ _ _ rfl bs 37 (.agg #[.int .i64 0, .int .i64 0]) 2 16 Tryd.underlying35 infoRun rfl (by decide) (pairRp .i64) rfl No _ L6 rfl hov9 [.int .i64 r1, .int .i64 r2] _ (r1, r2) 1 (by go_simp) ⟨rfl, ⟨show _ ∧ _ from by omega, show _ ∧ _ from by omega⟩⟩ (fun _ q => q.elim) (by omega) (by omega) (by omega) ?_); intro v9 w9 ho9 hc9' hk9')
                        go_roundw
                        case rel =>
                          refine ⟨c + 1, by omega, by go_num, by rw [HT7.out]; exact ho9, hcv9.andThen hc9' (fun k q => .inl (hov9.blk k q).1), fun k q => ?_, hc59.andThen hc9' (fun k q => hbv k q)⟩
                          rcases hk9' k q with q' | q'
                          · exact hbv k q'
                          · exact .inr (by omega)
                        case measure => exact meas_lt (by omega)
                  · obtain rfl : c = T.length := by omega
                    rw [List.take_length] at hov
                    have HOV := Lib.hid hov
                    clear hov
                    go_wp2_with fail
                    go_roundw
                    case rel => exact ⟨i + 1, by omega, by go_num, by rw [HO1.out], by rw [HTL.out]; exact HOV.out, hcv, hon⟩
                    case measure => exact meas_lt (by omega)
              · obtain rfl : i = 4 := by omega
                have hC : ownedTo f 4 = cntTo x x.length := by rw [← hI.cnt]; simp [ownedTo]
                rw [show ((4 : Nat) : Int) = 4 from rfl, hC]
                have hCle : cntTo x x.length ≤ x.length := popB_le _ _
                obtain ⟨C, hCC⟩ : ∃ z, z = cntTo x x.length := ⟨_, rfl⟩
                rw [← hCC] at hCle ⊢
                obtain ⟨D, hD⟩ : ∃ z : Int, z = (N : Int) - (C : Int) := ⟨_, rfl⟩
                have ewD : IntKind.i64.wrap ((C : Int) + D) = (N : Int) := by rw [IntWalk.i64_in _ (by omega)]; omega
                have hszq := hcq.size
                have hkq := hk.ch hcq (fun q => by have : bs ≤ s := q; omega) (fun q => by have : bs ≤ p0 := q; omega) (fun q => by have : bs ≤ g := q; omega) (fun q => by have : bs ≤ m := q; omega) (fun q => by have : bs ≤ h' := q; omega)
                have hnq := hnr.ch hcq (fun q => by have : bs ≤ 0 := q; omega)
                have hGq := hG.andThen hcq (fun k q => .inl (by have : bs ≤ k := q; show w.heap.size ≤ k; omega))
                have hfr : ∀ W', PagesAt W' s p0 g m h' x W → Calls Tryd.prog 18 #[.pointer (some ⟨s, 0, none⟩)] W' fun e w' => e = .returned (.int .i64 D) ∧ Ch No W' w' := fun W' k => by
                  have := pages_Free W' s p0 g m h' x W k
                  rw [← hCC, hxl, ← hD] at this
                  exact this
                have hln : ∀ W', PagesAt W' s p0 g m h' x W → Calls Tryd.prog 19 #[.pointer (some ⟨p0, 0, none⟩)] W' fun e w' => e = .returned (.int .i64 N) ∧ W' = w' := fun W' k => by
                  have := bits_Len W' p0 g x k.row
                  rw [hxl] at this
                  exact this
                have hG0' : HeldE wr s p0 g m h' x W wr.drew := ⟨hkq.ch0 (Ch.refl _ _).drew, hnq.ch (Ch.refl No _).drew (fun q => q), (Ch.refl No _).drew⟩
                clear hD hCC hC
                go_wp2_with fail
                refine wp_region_held_drew (S := (fun w' : World => w'.cell? ⟨s, 0, none⟩ = some (.pointer (some ⟨p0, 0, none⟩)) ∧ HeldE wr s p0 g m h' x W w')) (by kernel_rfl) (HeldE.full hG0') (fun hHeld => ?_)
                refine wpAnyH_ready (rs := [0]) (by kernel_rfl) (by simp) ?_
                refine AllReadyH.cons (by simp only [List.getElem?_toArray, List.getElem?_cons_zero, List.getElem?_cons_succ]; exact rfl) (fun K hK => ?_) AllReadyH.nil
                go_simp
                (go_at_call 9; (with_reducible refine (fixed11 _ (HeldE.nw (And.right (by assumption)))).mono ?_); rintro e w9 ⟨rfl, hc9⟩; have hG9 := HeldE.ch0 (And.right (by assumption)) hc9; (try dsimp only))
                try go_wp2_with fail
                refine hK.out _ _ ?_ (fun hHeld => ?_)
                · try dsimp only
                  first | assumption | exact HeldE.full (by assumption) | fail
                clear hK K
                try simp only [Act.put, List.setIfInBounds_toArray, List.set_cons_zero, List.set_cons_succ]
                refine wpAnyH_take (i := 1) (v := ?_) (by simp only [List.getElem?_toArray, List.getElem?_cons_zero, List.getElem?_cons_succ]; exact rfl) (by kernel_rfl) (by kernel_rfl) (by kernel_rfl) (by intro _ _ _ h; exact h) (Or.inl ⟨by rfl, ?_⟩) (by assumption) ?_
                rotate_left
                · intro w hSw
                  (try dsimp only at hSw)
                  go_simp
                  try (with_reducible rfl)
                try simp only [Act.put, List.setIfInBounds_toArray, List.set_cons_zero, List.set_cons_succ]
                refine wpAnyH_take (i := 2) (v := ?_) (by simp only [List.getElem?_toArray, List.getElem?_cons_zero, List.getElem?_cons_succ]; exact rfl) (by kernel_rfl) (by kernel_rfl) (by kernel_rfl) (by intro _ _ _ h; exact h) (Or.inl ⟨by rfl, ?_⟩) (by assumption) ?_
                rotate_left
                · intro w hSw
                  (try dsimp only at hSw)
                  go_simp
                  try (with_reducible rfl)
                try simp only [Act.put, List.setIfInBounds_toArray, List.set_cons_zero, List.set_cons_succ]
                refine wpAnyH_take (i := 3) (v := ?_) (by simp only [List.getElem?_toArray, List.getElem?_cons_zero, List.getElem?_cons_succ]; exact rfl) (by kernel_rfl) (by kernel_rfl) (by kernel_rfl) (by intro _ _ _ h; exact h) (Or.inl ⟨by rfl, ?_⟩) (by assumption) ?_
                rotate_left
                · intro w hSw
                  (try dsimp only at hSw)
                  go_simp
                  try (with_reducible rfl)
                try simp only [Act.put, List.setIfInBounds_toArray, List.set_cons_zero, List.set_cons_succ]
                refine wpAnyH_take (i := 6) (v := ?_) (by simp only [List.getElem?_toArray, List.getElem?_cons_zero, List.getElem?_cons_succ]; exact rfl) (by kernel_rfl) (by kernel_rfl) (by kernel_rfl) (by intro _ _ _ h; exact h) (Or.inl ⟨by rfl, ?_⟩) (by assumption) ?_
                rotate_left
                · intro w hSw
                  (try dsimp only at hSw)
                  go_simp
                  try (with_reducible rfl)
                try simp only [Act.put, List.setIfInBounds_toArray, List.set_cons_zero, List.set_cons_succ]
                refine wpAnyH_take (i := 7) (v := ?_) (by simp only [List.getElem?_toArray, List.getElem?_cons_zero, List.getElem?_cons_succ]; exact rfl) (by kernel_rfl) (by kernel_rfl) (by kernel_rfl) (by intro _ _ _ h; exact h) (Or.inl ⟨by rfl, ?_⟩) (by assumption) ?_
                rotate_left
                · intro w hSw
                  (try dsimp only at hSw)
                  go_simp
                  try (with_reducible rfl)
                try simp only [Act.put, List.setIfInBounds_toArray, List.set_cons_zero, List.set_cons_succ]
                refine wpAnyH_take (i := 8) (v := ?_) (by simp only [List.getElem?_toArray, List.getElem?_cons_zero, List.getElem?_cons_succ]; exact rfl) (by kernel_rfl) (by kernel_rfl) (by kernel_rfl) (by intro _ _ _ h; exact h) (Or.inl ⟨by rfl, ?_⟩) (by assumption) ?_
                rotate_left
                · intro w hSw
                  (try dsimp only at hSw)
                  go_simp
                  try (with_reducible rfl)
                try simp only [Act.put, List.setIfInBounds_toArray, List.set_cons_zero, List.set_cons_succ]
                refine wpAnyH_take (i := 9) (v := ?_) (by simp only [List.getElem?_toArray, List.getElem?_cons_zero, List.getElem?_cons_succ]; exact rfl) (by kernel_rfl) (by kernel_rfl) (by kernel_rfl) (by intro _ _ _ h; exact h) (Or.inl ⟨by rfl, ?_⟩) (by assumption) ?_
                rotate_left
                · intro w hSw
                  (try dsimp only at hSw)
                  go_simp
                  try (with_reducible rfl)
                try simp only [Act.put, List.setIfInBounds_toArray, List.set_cons_zero, List.set_cons_succ]
                refine wpAnyH_take (i := 10) (v := ?_) (by simp only [List.getElem?_toArray, List.getElem?_cons_zero, List.getElem?_cons_succ]; exact rfl) (by kernel_rfl) (by kernel_rfl) (by kernel_rfl) (by intro _ _ _ h; exact h) (Or.inl ⟨by rfl, ?_⟩) (by assumption) ?_
                rotate_left
                · intro w hSw
                  (try dsimp only at hSw)
                  go_simp
                  try (with_reducible rfl)
                try simp only [Act.put, List.setIfInBounds_toArray, List.set_cons_zero, List.set_cons_succ]
                refine wpAnyH_ready (rs := [4]) (by kernel_rfl) (by simp) ?_
                refine AllReadyH.cons (by simp only [List.getElem?_toArray, List.getElem?_cons_zero, List.getElem?_cons_succ]; exact rfl) (fun K hK => ?_) AllReadyH.nil
                go_simp
                (go_at_call 18; (with_reducible refine (hfr _ (HeldE.pg (And.right (by assumption)))).mono ?_); rintro e w9 ⟨rfl, hc9⟩; have hG9 := HeldE.ch0 (And.right (by assumption)) hc9; (try dsimp only))
                try go_wp2_with fail
                refine hK.out _ _ ?_ (fun hHeld => ?_)
                · try dsimp only
                  first | assumption | exact HeldE.full (by assumption) | fail
                clear hK K
                try simp only [Act.put, List.setIfInBounds_toArray, List.set_cons_zero, List.set_cons_succ]
                refine wpAnyH_take (i := 5) (v := ?_) (by simp only [List.getElem?_toArray, List.getElem?_cons_zero, List.getElem?_cons_succ]; exact rfl) (by kernel_rfl) (by kernel_rfl) (by kernel_rfl) (by intro _ _ _ h; exact h) (Or.inl ⟨by rfl, ?_⟩) (by assumption) ?_
                rotate_left
                · intro w hSw
                  (try dsimp only at hSw)
                  go_simp
                  try (with_reducible rfl)
                try simp only [Act.put, List.setIfInBounds_toArray, List.set_cons_zero, List.set_cons_succ]
                refine wpAnyH_ready (rs := [11]) (by kernel_rfl) (by simp) ?_
                refine AllReadyH.cons (by simp only [List.getElem?_toArray, List.getElem?_cons_zero, List.getElem?_cons_succ]; exact rfl) (fun K hK => ?_) AllReadyH.nil
                go_simp
                (go_at_call 19; (with_reducible refine (hln _ (HeldE.pg (And.right (by assumption)))).mono ?_); rintro e w9 ⟨rfl, rfl⟩; (try dsimp only))
                try go_wp2_with fail
                refine hK.out _ _ ?_ (fun hHeld => ?_)
                · try dsimp only
                  first | assumption | exact HeldE.full (by assumption) | fail
                clear hK K
                try simp only [Act.put, List.setIfInBounds_toArray, List.set_cons_zero, List.set_cons_succ]
                refine wpAnyH_take (i := 12) (v := ?_) (by simp only [List.getElem?_toArray, List.getElem?_cons_zero, List.getElem?_cons_succ]; exact rfl) (by kernel_rfl) (by kernel_rfl) (by kernel_rfl) (by intro _ _ _ h; exact h) (Or.inl ⟨by rfl, ?_⟩) (by assumption) ?_
                rotate_left
                · intro w hSw
                  (try dsimp only at hSw)
                  go_simp
                  try (with_reducible rfl)
                try simp only [Act.put, List.setIfInBounds_toArray, List.set_cons_zero, List.set_cons_succ]
                refine wpAnyH_take (i := 13) (v := ?_) (by simp only [List.getElem?_toArray, List.getElem?_cons_zero, List.getElem?_cons_succ]; exact rfl) (by kernel_rfl) (by kernel_rfl) (by kernel_rfl) (by intro _ _ _ h; exact h) (Or.inl ⟨by rfl, ?_⟩) (by assumption) ?_
                rotate_left
                · intro w hSw
                  (try dsimp only at hSw)
                  go_simp
                  try (with_reducible rfl)
                try simp only [Act.put, List.setIfInBounds_toArray, List.set_cons_zero, List.set_cons_succ]
                refine wpAnyH_take (i := 14) (v := ?_) (by simp only [List.getElem?_toArray, List.getElem?_cons_zero, List.getElem?_cons_succ]; exact rfl) (by kernel_rfl) (by kernel_rfl) (by kernel_rfl) (by intro _ _ _ h; exact h) (Or.inl ⟨by rfl, ?_⟩) (by assumption) ?_
                rotate_left
                · intro w hSw
                  (try dsimp only at hSw)
                  go_simp
                  try (with_reducible rfl)
                try simp only [Act.put, List.setIfInBounds_toArray, List.set_cons_zero, List.set_cons_succ]
                refine wpAnyH_done (by kernel_rfl) ?_ _
                try go_wp2_with fail
                go_ret
                exact ⟨rfl, toN _ (hGq.then0 hG9.ch)⟩
end Go.Proofs.YtpldogmamifdpaaDoor

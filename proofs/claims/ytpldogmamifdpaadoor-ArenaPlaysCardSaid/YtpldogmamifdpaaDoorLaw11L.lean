/- The law ArenaPlays: the walk. -/
import Derived.Test.YtpldogmamifdpaaDoorRefs11
import Derived.Test.YtpldogmamifdpaaDoorRef11
import Derived.Test.YtpldogmamifdpaaDoorLaw11
import Derived.Deep.RegionHeld3
set_option linter.unusedVariables false
set_option linter.unusedSimpArgs false
namespace Go.Proofs.YtpldogmamifdpaaDoor
open Go Go.RowKit

set_option maxRecDepth 100000 in
set_option maxHeartbeats 32000000 in
theorem play11 (w : World) (n : Int) (a : Option Addr) (c : Nat) (l : List Act11) (pp0 p1 : Int) (hsl0 : SlR act11Rp No w a c l) (hpp : I64 pp0) (hpq : I64 p1) (hn : Nw w) (hn0 : 0 ≤ n ∧ n ≤ 255) (hl : l.length ≤ 9223372036854775807) :
    Calls Tryd.prog 6 #[.int .u8 n, .slice a l.length c, .agg #[.int .i64 pp0, .int .i64 p1]] w fun e w' => e = .returned (.bool true) ∧ Ch No w w' := by
  obtain ⟨w0, hw0⟩ : ∃ z, z = w.alloc (.cells #[.int .i64 pp0, .int .i64 p1] 57) := ⟨_, rfl⟩
  have hal0 : Ch No w w0 := by rw [hw0]; exact (Ch.refl _ _).alloc _
  have hdp : w0.heap[w.heap.size]? = some (.cells #[.int .i64 pp0, .int .i64 p1] 57 (0, 0)) := by rw [hw0]; exact World.alloc_heap_new _ _
  have hsz0 : w0.heap.size = w.heap.size + 1 := by rw [hw0]; simp
  have hn00 := hn.ch hal0 (fun q => q)
  have hnl := hn.lt
  have HW0 := Lib.hid hw0
  by_cases hcut : 80 < l.length
  · have b3 : decide ((l.length : Int) > 80) = true := decide_eq_true (by omega)
    clear hw0
    go_enter Tryd.func6, Tryd.ntmps6
    go_wp2_with fail
    rw [← HW0.out]
    with_reducible refine (fixed11 w0 hn00).mono ?_
    rintro e w1 ⟨rfl, hc⟩
    dsimp only
    go_wp2_with fail
    go_ret
    exact ⟨rfl, hal0.trans hc⟩
  · have b3 : decide ((l.length : Int) > 80) = false := decide_eq_false (by omega)
    have hl80 : l.length ≤ 80 := by omega
    clear hcut hl hw0
    obtain ⟨N, hN⟩ : ∃ N : Nat, N = (1 + n % 60).toNat := ⟨_, rfl⟩
    have hN1 : 1 ≤ N ∧ N ≤ 60 := by omega
    have e1 : IntKind.i64.wrap n = n := IntWalk.i64_in _ (by omega)
    have e2 : n.tmod 60 = n % 60 := Int.tmod_eq_emod_of_nonneg hn0.1
    have e3 : IntKind.i64.wrap (n % 60) = n % 60 := IntWalk.i64_in _ (by omega)
    have e4 : IntKind.i64.wrap (1 + n % 60) = (N : Int) := by rw [IntWalk.i64_in _ (by omega)]; omega
    obtain ⟨q60, hq60⟩ : ∃ z, z = n % 60 := ⟨_, rfl⟩
    rw [← hq60] at e2 e3 e4
    clear hN hq60
    have hnew := pages_New w0 N hN1.1 (by omega)
    have hslW : ∀ W', Ch (fun k => w0.heap.size ≤ k) w0 W' → SlR act11Rp (fun k => w0.heap.size ≤ k) W' a c l := fun W' hc => ((hsl0.ch0 hal0).more (fun k q => .inr q)).ch hc (fun _ q => q)
    have toN : ∀ W', Ch (fun k => w0.heap.size ≤ k) w0 W' → Ch No w W' := fun W' hc => hal0.andThen hc (fun k hk => .inr (by have : w0.heap.size ≤ k := hk; omega))
    go_enter Tryd.func6, Tryd.ntmps6
    go_wp2_with fail
    rw [← HW0.out]
    with_reducible refine hnew.mono ?_
    rintro e w1 ⟨s, p0, g, m, h', rfl, k1, hs, hp, hg, hm, hh, hc1⟩
    obtain ⟨x0, hx0⟩ : ∃ z, z = List.replicate N false := ⟨_, rfl⟩
    obtain ⟨W0, hW0⟩ : ∃ z, z = List.replicate (16 * N) (0 : Int) := ⟨_, rfl⟩
    have hx0l : x0.length = N := by rw [hx0, List.length_replicate]
    have hcn0 : cntTo x0 x0.length = 0 := by rw [hx0]; exact cnt_none N _
    rw [← hx0, ← hW0] at k1
    have HX0 := Lib.hid hx0
    have hk1l := k1.lt
    have hn1 := hn00.ch hc1 (fun q => q)
    have hs1 := hc1.size
    have hrn := ref03_New (fun q => q = g ∨ q = h') w1 N hN1.1 (by omega) (fun q z => by rcases z with z | z <;> omega)
    rw [← hx0] at hrn
    clear hx0 hW0 hnew e1 e2 e3 e4
    dsimp only
    go_wp2_with fail
    with_reducible refine hrn.mono ?_
    rintro e w1b ⟨q0, c0, rfl, hq0, hc1b⟩
    have hs1b := hc1b.size
    have k1b := k1.ch0 hc1b
    have hn1b := hn1.ch hc1b (fun q => q)
    clear hrn
    dsimp only
    go_wp2_with fail
    obtain ⟨B, hB⟩ : ∃ z, z = w1b.heap.size := ⟨_, rfl⟩
    obtain ⟨w2, hw2⟩ : ∃ z, z = (w1b.alloc (.cells #[.pointer none, .pointer none, .pointer none, .pointer none] 49)).alloc (.cells #[.int .i64 0, .int .i64 0, .slice none 0 0, .slice none 0 0, .int .i64 0, .int .i64 0, .slice none 0 0, .slice none 0 0, .int .i64 0, .int .i64 0, .slice none 0 0, .slice none 0 0, .int .i64 0, .int .i64 0, .slice none 0 0, .slice none 0 0] 65) := ⟨_, rfl⟩
    have hal : Ch No w1b w2 := by rw [hw2]; exact ((Ch.refl _ _).alloc _).alloc _
    have hP0 : ∀ f, Ptrs 0 w2 B f := fun f => by rw [hw2, hB]; exact ⟨_, heap_al (World.alloc_heap_new _ _) _, rfl, fun i hi => absurd hi (by omega)⟩
    obtain ⟨X, hX⟩ : ∃ z, z = B + 1 := ⟨_, rfl⟩
    have hX0 : w2.heap[X]? = some (.cells #[.int .i64 0, .int .i64 0, .slice none 0 0, .slice none 0 0, .int .i64 0, .int .i64 0, .slice none 0 0, .slice none 0 0, .int .i64 0, .int .i64 0, .slice none 0 0, .slice none 0 0, .int .i64 0, .int .i64 0, .slice none 0 0, .slice none 0 0] 65 (0, 0)) := by
      rw [hw2, hX, hB]
      have := World.alloc_heap_new (w1b.alloc (.cells #[.pointer none, .pointer none, .pointer none, .pointer none] 49)) (.cells #[.int .i64 0, .int .i64 0, .slice none 0 0, .slice none 0 0, .int .i64 0, .int .i64 0, .slice none 0 0, .slice none 0 0, .int .i64 0, .int .i64 0, .slice none 0 0, .slice none 0 0, .int .i64 0, .int .i64 0, .slice none 0 0, .slice none 0 0] 65)
      rw [World.size_alloc] at this
      exact this
    have hs2 : w2.heap.size = B + 2 := by rw [hw2, hB]; simp
    obtain ⟨base, hbase⟩ : ∃ z, z = w2.heap.size := ⟨_, rfl⟩
    have k2 := k1b.ch0 hal
    have hn2 := hn1b.ch hal (fun q => q)
    have hq2 := (hq0.more (F' := fun q => q = g ∨ q = h' ∨ w1b.heap.size ≤ q) (fun q z => by
      rcases z with z | z | z
      · exact .inl (.inl z)
      · exact .inl (.inr z)
      · exact .inr z)).ch0 hal
    rw [← hB, ← hX, ← hw2]
    have hBb : B < X ∧ X < base ∧ w1b.heap.size ≤ B ∧ base ≤ w2.heap.size ∧ w2.heap.size ≤ base := by omega
    have HW2 := Lib.hid hw2
    clear hw2 hB hs2 hbase hX
    go_loopw [50] (fun v wq => ∃ (i : Nat) (f : Nat → Ar), i ≤ 4 ∧ v = .int .i64 i ∧ Many11 i wq base s f ∧ Ptrs i wq B f ∧ (∀ j, j < i → Fresh11 (f j)) ∧ Ch (One B) w2 wq) (fun v _ => 4 - (intOf v).toNat)
    case atStart => exact ⟨0, fun _ => fresh11 0 0, by omega, rfl, ⟨fun i hi => absurd hi (by omega), fun i j hi => absurd hi (by omega)⟩, hP0 _, fun j hj => absurd hj (by omega), Ch.refl _ _⟩
    case round =>
      obtain ⟨i, f, hi, rfl, hM, hP, hF, hc⟩ := hrel
      have hsr := hc.size
      by_cases hi4 : i < 4
      · have hnr := hn2.ch hc (fun q => by have : 0 = B := q; omega)
        have hnw := arena_New wr base (.pointer (some ⟨s, 0, none⟩)) hnr (by omega) (.inr ⟨s, rfl⟩)
        go_wp2_with fail
        with_reducible refine hnw.mono ?_
        rintro e w3 ⟨b3, p3, rfl, ha3, hb3, hp3, hc3⟩
        have hP3 := hP.ch hc3 (fun q => q)
        have hM4 := (hM.more (a := fresh11 b3 p3) hc3 ha3 (fun q hq => by rcases fresh11_foot hq with r | r <;> omega)).ch (w' := w3.setCell ⟨B, i, none⟩ (.pointer (some ⟨b3, 0, none⟩))) (F := One B) (Ch.setIn (F := One B) (Ch.refl _ _) (p := ⟨B, i, none⟩) rfl _) (fun k q => .inl (by have : k = B := q; omega))
        have hP4 := hP3.more (a := fresh11 b3 p3) hi4
        have hc4 : Ch (One B) w2 (w3.setCell ⟨B, i, none⟩ (.pointer (some ⟨b3, 0, none⟩))) := (hc.trans hc3.ofNo).trans (Ch.setIn (F := One B) (Ch.refl _ _) (p := ⟨B, i, none⟩) rfl _)
        dsimp only
        obtain ⟨cs, g1, g2, g3⟩ := hP3
        have z0 : w3.cell? ⟨B, i, none⟩ = some (cs[i]'(by omega)) := cellOf g1 i (Array.getElem?_eq_getElem (by omega))
        have z1 := freeOf g1 i
        have z2 := hP4.cell (i := i) (by omega)
        rw [upd_same] at z2
        go_wp2_with fail
        go_roundw
        case rel => exact ⟨i + 1, _, by omega, by go_num, hM4, hP4, fun j hj => by
          by_cases hji : j = i
          · subst hji; rw [upd_same]; exact ⟨rfl, rfl, rfl, rfl, rfl, rfl⟩
          · rw [upd_ne hji]; exact hF j (by omega), hc4⟩
        case measure => exact meas_lt (by omega)
      · obtain rfl : i = 4 := by omega
        rw [show ((4 : Nat) : Int) = 4 from rfl]
        have k3 := k2.ch hc (fun q => by have : s = B := q; omega) (fun q => by have : p0 = B := q; omega) (fun q => by have : g = B := q; omega) (fun q => by have : m = B := q; omega) (fun q => by have : h' = B := q; omega)
        have hn3 := hn2.ch hc (fun q => by have : 0 = B := q; omega)
        have hI0 : Inv11 x0 f := by rw [HX0.out]; exact Inv11.start N f hF
        have hG0 : Ch (fun k => w0.heap.size ≤ k) w0 wr := (((hc1.trans hc1b).trans hal).ofNo).trans (hc.mono (fun k q => by have : k = B := q; show w0.heap.size ≤ k; omega))
        have hFT : ∀ j, j < 4 → (f j).R.length ≤ 0 ∧ (f j).T.length ≤ 0 := fun j hj => by
          have h1 := (hF j hj).2.2.2.2.1
          have h2 := (hF j hj).2.2.2.2.2
          rw [h1, h2]
          exact ⟨Nat.le_refl _, Nat.le_refl _⟩
        obtain ⟨r0, hr0⟩ : ∃ r0 : Nat → Sl4, r0 = fun _ => ⟨none, 0, none, 0⟩ := ⟨_, rfl⟩
        have hXs : Refs11 wr X f r0 := ⟨_, hc.heap hX0 (fun q => by have : X = B := q; omega), rfl, fun i hi => by
          obtain ⟨f1, f2, _, _, f5, f6⟩ := hF i hi
          rw [f1, f2, f5, f6, hr0]
          have : i = 0 ∨ i = 1 ∨ i = 2 ∨ i = 3 := by omega
          rcases this with rfl | rfl | rfl | rfl <;> exact ⟨rfl, rfl, rfl, rfl⟩⟩
        have hrws : Rows11 (H11 X g h' f) wr f r0 := fun i hi => by
          obtain ⟨_, _, _, _, f5, f6⟩ := hF i hi
          rw [f5, f6, hr0]
          exact ⟨SlR.nilR _ _ _, SlR.nilR _ _ _⟩
        have hqs : SlR boolRp (H11 X g h' f) wr q0 c0 x0 := (hq2.ch hc (fun q z => .inr (.inr (by have : q = B := z; omega)))).more (fun q z => .inl (by
          rcases z with (z | z | z) | ⟨j, hj, z⟩
          · exact .inr (.inr (by omega))
          · exact .inl z
          · exact .inr (.inl z)
          · exact .inr (.inr (by have := hM.bd hj z; omega))))
        clear HX0 hP0 HW2 hc k1 k2 hn1 hn2 hr0 hX0 hq2 hq0 hF
        go_wp2_with fail
        go_loopw [10, 64] (fun tq v wq => ∃ (i : Nat) (f : Nat → Ar) (r : Nat → Sl4) (x : List Bool) (W : List Int) (q : Option Addr) (c' : Nat), i ≤ l.length ∧ v = .int .i64 i ∧ tq = .slice q N c' ∧ Many11 4 wq base s f ∧ Ptrs 4 wq B f ∧ PagesAt wq s p0 g m h' x W ∧ Inv11 x f ∧ x.length = N ∧ (∀ j, j < 4 → (f j).R.length ≤ i ∧ (f j).T.length ≤ i) ∧ Ch (fun k => w0.heap.size ≤ k) w0 wq ∧ Nw wq ∧ base ≤ wq.heap.size ∧ Refs11 wq X f r ∧ Rows11 (H11 X g h' f) wq f r ∧ SlR boolRp (H11 X g h' f) wq q c' x) (fun _ v _ => l.length - (intOf v).toNat)
        case atStart => exact ⟨0, f, r0, x0, W0, q0, c0, by omega, rfl, rfl, hM, hP, k3, hI0, hx0l, hFT, hG0, hn3, by omega, hXs, hrws, hqs⟩
        case round =>
          obtain ⟨i, f, r, x, W, qg, cg, hi, rfl, rfl, hM, hP, hk, hI, hxl, hRT, hG, hnr, hsr, hXr, hrwr, hqr⟩ := hrel
          by_cases hil : i < l.length
          · obtain ⟨bq, off, rfl, _, d0, d1, d2, i0, i1⟩ := (hslW _ hG).act11_at i hil
            obtain ⟨A, hA⟩ : ∃ z, z = l[i] := ⟨_, rfl⟩
            rw [← hA] at d0 d1 d2 i0 i1
            obtain ⟨wh, sz, rel⟩ := A
            dsimp only at d0 d1 d2 i0 i1
            obtain ⟨k, hkk⟩ : ∃ k : Nat, k = (wh % 4).toNat := ⟨_, rfl⟩
            have i0' : 0 ≤ wh ∧ wh ≤ 255 := i0
            have hk4 : k < 4 := by omega
            have hk4i : (k : Int) < 4 := by omega
            have f1 : IntKind.i64.wrap wh = wh := IntWalk.i64_in _ (by omega)
            have f2 : wh.tmod 4 = (k : Int) := by rw [Int.tmod_eq_emod_of_nonneg (by omega)]; omega
            have f3 : IntKind.i64.wrap (k : Int) = (k : Int) := IntWalk.i64_in _ (by omega)
            obtain ⟨wa, hwa⟩ : ∃ z, z = wr.alloc (.cells #[.int .u8 wh, .int .i64 sz, .bool rel] 51) := ⟨_, rfl⟩
            have hala : Ch No wr wa := by rw [hwa]; exact (Ch.refl _ _).alloc _
            have hda : wa.heap[wr.heap.size]? = some (.cells #[.int .u8 wh, .int .i64 sz, .bool rel] 51 (0, 0)) := by rw [hwa]; exact World.alloc_heap_new _ _
            have y0 := cellOf hda 0 rfl
            have y1 := cellOf hda 1 rfl
            have y2 := cellOf hda 2 rfl
            have hsa : wa.heap.size = wr.heap.size + 1 := by rw [hwa]; simp
            have hMa := hM.ch0 hala
            have hPa := hP.ch hala (fun q => q)
            have zk := hPa.cell hk4
            have hka := hk.ch0 hala
            have hna := hnr.ch hala (fun q => q)
            have hGa := hG.then0 hala
            have hXa := hXr.ch hala (fun q => q)
            have hrwa := hrwr.ch0 hala
            have hqa := hqr.ch0 hala
            have hfk : ∀ q, footA (f k) q → base ≤ q ∧ q < wr.heap.size := fun q hq => by have := hM.bd hk4 hq; omega
            have hsub : ∀ q, footA (f k) q ∨ q = g ∨ q = h' → q ≠ B ∧ q ≠ wr.heap.size := fun q hq => by
              rcases hq with r | r | r
              · have := hfk q r; omega
              · omega
              · omega
            have hwk : Within11 (f k).R := (hI.holds k hk4).within (by have := (hRT k hk4).1; omega) (by omega)
            have zk0 : (wr.alloc (.cells #[.int .u8 wh, .int .i64 sz, .bool rel] 51)).cell? ⟨B, k, none⟩ = some (.pointer (some ⟨(f k).b, 0, none⟩)) := by rw [← hwa]; exact zk
            have hFB : ¬ (fun q => footA (f k) q ∨ q = g ∨ q = h') B := fun q => (hsub B q).1 rfl
            have hFb : ¬ (fun q => footA (f k) q ∨ q = g ∨ q = h') wr.heap.size := fun q => (hsub wr.heap.size q).2 rfl
            have HA := Lib.hid hA
            have HWA := Lib.hid hwa
            clear hA hwa hkk
            cases rel with
            | true =>
              have hrl := arena_Release wa base (f k).b (f k).p s p0 g m h' _ _ _ _ _ _ x W (hMa.ar k hk4) hka hna (by omega) (by have := (hRT k hk4).1; omega) (hI.holds k hk4) (fun q hq => by have := hfk q hq; omega) (by omega)
              go_wp2_with fail
              rw [← HWA.out]
              with_reducible refine hrl.mono ?_
              rintro e w4 ⟨p3, rfl, ha3, hp3, hk4', hc3⟩
              have hcf : Ch (fun q => footA (f k) q ∨ q = g ∨ q = h') wa w4 := hc3.mono (fun q r => by
                rcases r with r | r
                · exact .inl (.inl r)
                · exact .inr (.inl r))
              obtain ⟨A3, hA3⟩ : ∃ z : Ar, z = ⟨(f k).b, p3, -1, 16, .slice none 0 0, .slice none 0 0, [], []⟩ := ⟨_, rfl⟩
              have hfA : ∀ q, footA A3 q → footA (f k) q ∨ wa.heap.size ≤ q := fun q hq => by
                rw [hA3] at hq
                rcases hq with r | r | r | r
                · exact .inl (.inl r)
                · exact .inr (by have : q = p3 := r; omega)
                · simp [Value.ownBlock] at r
                · simp [Value.ownBlock] at r
              have hM4 := hMa.step (a := A3) hk4 hcf (by omega) (by rw [hA3]; exact ha3) hfA
              have hP4 := (hPa.ch hcf (fun q => (hsub B q).1 rfl)).updB (a := A3) (k := k) (by rw [hA3])
              have hI4 := hI.release hk4 (a := A3) (by rw [hA3]) (by rw [hA3]) (by rw [hA3])
              have hn4 := hna.ch hcf (fun q => by
                rcases q with r | r | r
                · have := hfk _ r; omega
                · omega
                · omega)
              have hG4 := hGa.andThen hcf (fun q r => .inl (by
                show w0.heap.size ≤ q
                rcases r with r | r | r
                · have := hfk _ r; omega
                · omega
                · omega))
              have hs4 := hc3.size
              have hcX : ¬ (fun q => footA (f k) q ∨ q = g ∨ q = h') X := fun q => by
                rcases q with r | r | r
                · have := hfk X r; omega
                · omega
                · omega
              have hX4 := hXa.ch hcf hcX
              have hgH : ∀ q, (footA (f k) q ∨ q = g ∨ q = h') → H11 X g h' f q := fun q r => by
                rcases r with r | r | r
                · exact .inr ⟨k, hk4, r⟩
                · exact .inl (.inr (.inl r))
                · exact .inl (.inr (.inr r))
              have hrw4 := hrwa.ch hcf hgH
              have hq4 := hqa.ch hcf hgH
              have hFl : ∀ q, H11 X g h' (upd f k A3) q → q < w4.heap.size := fun q z => by
                rcases z with z | ⟨j, hj, z⟩
                · omega
                · exact (hM4.bd hj z).2
              obtain ⟨xc0, xc1, xc2, xc3⟩ := hX4.cells hk4
              have hrf := ref11_Release (H11 X g h' (upd f k A3)) w4 (refPg (f k).pg) (16 - (f k).us) (r k).qr (r k).cr (f k).R (r k).qt (f k).T.length (r k).ct qg cg x (H11.step (hrwa k hk4).1 hk4 hcf hfA) (H11.step hqa hk4 hcf hfA) (by omega) (by have := (hRT k hk4).1; omega) (hI.holds k hk4) hFl
              rw [hxl] at hrf
              have HI4 := Lib.hid hI4
              have HX4 := Lib.hid hxl
              clear hrl hI4 hxl
              dsimp only
              go_wp2_with fail
              with_reducible refine hrf.mono ?_
              rintro e w8 ⟨q3, c3, rfl, hq8, hc8⟩
              have hX8 := hX4.ch hc8 (fun q => q)
              obtain ⟨yc0, yc1, yc2, yc3⟩ := hX8.cells hk4
              have xf0 := hX8.free (k * 4)
              have xf1 := hX8.free (k * 4 + 1)
              have xf2 := hX8.free (k * 4 + 2)
              have xf3 := hX8.free (k * 4 + 3)
              have hset := hX8.set hk4 A3 ⟨none, 0, none, 0⟩
              rw [hA3] at hset
              dsimp only [List.length_nil] at hset
              rw [show refPg (-1) = 0 from rfl, show (16 : Int) - 16 = 0 from rfl, ← hA3] at hset
              have hchX : Ch (One X) w8 _ := Ch.setIn (F := One X) (Ch.setIn (F := One X) (Ch.setIn (F := One X) (Ch.setIn (F := One X) (Ch.refl _ w8) (p := ⟨X, k * 4, none⟩) rfl (.int .i64 0)) (p := ⟨X, k * 4 + 1, none⟩) rfl (.int .i64 0)) (p := ⟨X, k * 4 + 2, none⟩) rfl (.slice none 0 0)) (p := ⟨X, k * 4 + 3, none⟩) rfl (.slice none 0 0)
              have hs8 := hc8.size
              clear hrf
              dsimp only
              go_wp2_with fail
              obtain ⟨w3, hw3⟩ : ∃ z, z = ((((w8.setCell ⟨X, k * 4, none⟩ (.int .i64 0)).setCell ⟨X, k * 4 + 1, none⟩ (.int .i64 0)).setCell ⟨X, k * 4 + 2, none⟩ (.slice none 0 0)).setCell ⟨X, k * 4 + 3, none⟩ (.slice none 0 0)) := ⟨_, rfl⟩
              rw [← hw3] at hset hchX ⊢
              have hRT3 : ∀ j, j < 4 → (upd f k A3 j).R.length ≤ i + 1 ∧ (upd f k A3 j).T.length ≤ i + 1 := fun j hj => by
                by_cases hjk : j = k
                · subst hjk; rw [upd_same, hA3]; exact ⟨Nat.zero_le _, Nat.zero_le _⟩
                · rw [upd_ne hjk]; have := hRT j hj; omega
              have hrw5 : Rows11 (H11 X g h' (upd f k A3)) w4 (upd f k A3) (updS r k ⟨none, 0, none, 0⟩) := Rows11.step hrwa hk4 hcf hfA (by rw [hA3]; exact SlR.nilR _ _ _) (by rw [hA3]; exact SlR.nilR _ _ _)
              obtain ⟨f3, hf3⟩ : ∃ z, z = upd f k A3 := ⟨_, rfl⟩
              obtain ⟨r3, hr3⟩ : ∃ z, z = updS r k ⟨none, 0, none, 0⟩ := ⟨_, rfl⟩
              rw [← hf3] at hset hM4 hP4 hrw5 hq8 HI4 hRT3
              rw [← hr3] at hset hrw5
              have hX0 : ∀ q, One X q → q < base ∨ w8.heap.size ≤ q := fun q z => .inl (by have : q = X := z; omega)
              have hXH : ∀ q, One X q → H11 X g h' f3 q := fun q z => .inl (.inl z)
              have hM3 := (hM4.ch0 hc8).ch hchX hX0
              have hP3 := (hP4.ch hc8 (fun q => q)).ch hchX (fun q => by have : B = X := q; omega)
              have hk3 := (hk4'.ch0 hc8).ch hchX (fun q => by have : s = X := q; omega) (fun q => by have : p0 = X := q; omega) (fun q => by have : g = X := q; omega) (fun q => by have : m = X := q; omega) (fun q => by have : h' = X := q; omega)
              have hn3 := (hn4.ch hc8 (fun q => q)).ch hchX (fun q => by have : 0 = X := q; omega)
              have hG3 := (hG4.then0 hc8).andThen hchX (fun q z => .inl (by have : q = X := z; show w0.heap.size ≤ q; omega))
              have hrw3 := (hrw5.ch0 hc8).ch hchX hXH
              have hq3 := hq8.ch hchX hXH
              obtain ⟨x3, hx3⟩ : ∃ z, z = givenBack x (f k).R := ⟨_, rfl⟩
              obtain ⟨W3, hW3⟩ : ∃ z, z = W := ⟨_, rfl⟩
              have hxl3 : x3.length = N := by rw [hx3, givenBack_length]; exact HX4.out
              rw [← hx3] at hq3 hk3 HI4
              rw [← hW3] at hk3
              have hI3 := HI4.out; have hX3 := hset
              have hs3 := hchX.size
              clear hx3 hW3 hf3 hr3 hw3 hset hM4 hP4 hrw5 hq8 HI4 hX0 hX8 hX4 yc0 yc1 yc2 yc3 xc0 xc1 xc2 xc3 xf0 xf1 xf2 xf3 hn4 hG4 hrw4 hq4
              have hAk := hM3.ar k hk4
              have hRk := (hRT3 k hk4)
              have hwk3 : Within11 (f3 k).R := (hI3.holds k hk4).within (by omega) (by omega)
              obtain ⟨C3, hC3⟩ : ∃ z, z = cntTo x3 x3.length := ⟨_, rfl⟩
              have hCle : C3 ≤ x3.length := by rw [hC3]; exact popB_le _ _
              obtain ⟨D3, hD3⟩ : ∃ z : Int, z = (N : Int) - (C3 : Int) := ⟨_, rfl⟩
              have ewD : IntKind.i64.wrap ((N : Int) - (C3 : Int)) = D3 := by rw [IntWalk.i64_in _ (by omega)]; exact hD3.symm
              obtain ⟨P3, hP3'⟩ : ∃ z, z = (pagesOf (f3 k).R).length := ⟨_, rfl⟩
              have hd3 : Ch No w3 w3.drew := (Ch.refl _ _).drew
              have hsz3 := hd3.size
              have hFs : ∀ W', Ch No w3.drew W' → ∀ q, H11 X g h' f3 q → q < W'.heap.size := fun W' hc q z => by
                have h1 := hc.size
                rcases z with z | ⟨j, hj, z⟩
                · omega
                · have := hM3.bd hj z
                  omega
              have hfr : ∀ W', Ch No w3.drew W' → Calls Tryd.prog 18 #[.pointer (some ⟨s, 0, none⟩)] W' fun e w' => e = .returned (.int .i64 D3) ∧ Ch No W' w' := fun W' hc => by
                have := pages_Free W' s p0 g m h' x3 W3 ((hk3.ch0 hd3).ch0 hc)
                rw [← hC3, hxl3, ← hD3] at this
                exact this
              have hcn : ∀ W', Ch No w3.drew W' → Calls Tryd.prog 27 #[.slice q3 N c3] W' fun e w' => e = .returned (.int .i64 C3) ∧ W' = w' := fun W' hc => by
                have := ref02_Count (H11 X g h' f3) W' q3 c3 x3 ((hq3.ch0 hd3).ch0 hc) (by omega)
                rw [← hC3, hxl3] at this
                exact this
              have hrn : ∀ W', Ch No w3.drew W' → Calls Tryd.prog 17 #[.pointer (some ⟨(f3 k).b, 0, none⟩)] W' fun e w' => ∃ q c', e = .returned (.slice q (f3 k).R.length c') ∧ SlR (pairRp .i64) No w' q c' (f3 k).R ∧ Ch No W' w' := fun W' hc => arena_Runs No W' base _ _ _ _ _ _ _ _ _ ((hAk.ch0 hd3).ch0 hc) (by omega) (no_lt _)
              have htn : ∀ W', Ch No w3.drew W' → Calls Tryd.prog 16 #[.pointer (some ⟨(f3 k).b, 0, none⟩)] W' fun e w' => ∃ q c', e = .returned (.slice q (f3 k).T.length c') ∧ SlR (pairRp .i64) No w' q c' (f3 k).T ∧ Ch No W' w' := fun W' hc => arena_Things No W' base _ _ _ _ _ _ _ _ _ ((hAk.ch0 hd3).ch0 hc) (by omega) (no_lt _)
              have hsm : ∀ W', Ch No w3.drew W' → ∀ qn cn, SlR (pairRp .i64) No W' qn cn (f3 k).R → Calls Tryd.prog 20 #[.slice qn (f3 k).R.length cn, .slice (r3 k).qr (f3 k).R.length (r3 k).cr] W' fun e w' => e = .returned (.bool true) ∧ Ch No W' w' := fun W' hc qn cn hq => by
                have := ref06_Same No (H11 X g h' f3) W' _ _ _ _ _ _ hq (((hrw3 k hk4).1.ch0 hd3).ch0 hc) (by omega) (by omega)
                rw [decide_eq_true rfl] at this
                exact this
              have hsm' : ∀ W', Ch No w3.drew W' → ∀ qn cn, SlR (pairRp .i64) No W' qn cn (f3 k).T → Calls Tryd.prog 20 #[.slice qn (f3 k).T.length cn, .slice (r3 k).qt (f3 k).T.length (r3 k).ct] W' fun e w' => e = .returned (.bool true) ∧ Ch No W' w' := fun W' hc qn cn hq => by
                have := ref06_Same No (H11 X g h' f3) W' _ _ _ _ _ _ hq (((hrw3 k hk4).2.ch0 hd3).ch0 hc) (by omega) (by omega)
                rw [decide_eq_true rfl] at this
                exact this
              have hpg : ∀ W', Ch No w3.drew W' → Calls Tryd.prog 12 #[.pointer (some ⟨(f3 k).b, 0, none⟩)] W' fun e w' => e = .returned (.int .i64 P3) ∧ Ch No W' w' := fun W' hc => by
                rw [hP3']
                exact arena_Pages W' base _ _ _ _ _ _ _ _ _ ((hAk.ch0 hd3).ch0 hc) hwk3
              have hrp : ∀ W', Ch No w3.drew W' → Calls Tryd.prog 28 #[.agg #[.int .i64 (refPg (f3 k).pg), .int .i64 (16 - (f3 k).us), .slice (r3 k).qr (f3 k).R.length (r3 k).cr, .slice (r3 k).qt (f3 k).T.length (r3 k).ct]] W' fun e w' => e = .returned (.int .i64 P3) ∧ Ch No W' w' := fun W' hc => by
                rw [hP3']
                exact ref11_Pages (H11 X g h' f3) W' _ _ _ _ _ _ _ _ (((hrw3 k hk4).1.ch0 hd3).ch0 hc) hwk3 (hFs W' hc)
              have hcx := (hX3.ch hd3 (fun q => q)).cells hk4
              have hcb := (hP3.ch hd3 (fun q => q)).cell hk4
              have K32 : ∀ W', Ch No w3.drew W' → (fun w' : World => ((w'.cell? ⟨X, k * 4, none⟩ = some (.int .i64 (refPg (f3 k).pg)) ∧ w'.cell? ⟨X, k * 4 + 1, none⟩ = some (.int .i64 (16 - (f3 k).us)) ∧ w'.cell? ⟨X, k * 4 + 2, none⟩ = some (.slice (r3 k).qr (f3 k).R.length (r3 k).cr) ∧ w'.cell? ⟨X, k * 4 + 3, none⟩ = some (.slice (r3 k).qt (f3 k).T.length (r3 k).ct)) ∧ w'.cell? ⟨B, k, none⟩ = some (.pointer (some ⟨(f3 k).b, 0, none⟩))) ∧ Ch No w3.drew w') W' := fun W' hc => ⟨⟨⟨hc.cell hcx.1 (fun q => q), hc.cell hcx.2.1 (fun q => q), hc.cell hcx.2.2.1 (fun q => q), hc.cell hcx.2.2.2 (fun q => q)⟩, hc.cell hcb (fun q => q)⟩, hc⟩
              have HI3 := Lib.hid hI3; have HRT := Lib.hid hRT3; have HX3 := Lib.hid hxl3
              clear hC3 hD3 hP3' hI3 hRT3 hxl3 hwk3
              clear hRk
              try go_wp2_with fail
              refine wp_region_held_drew (S := (fun w' : World => ((w'.cell? ⟨X, k * 4, none⟩ = some (.int .i64 (refPg (f3 k).pg)) ∧ w'.cell? ⟨X, k * 4 + 1, none⟩ = some (.int .i64 (16 - (f3 k).us)) ∧ w'.cell? ⟨X, k * 4 + 2, none⟩ = some (.slice (r3 k).qr (f3 k).R.length (r3 k).cr) ∧ w'.cell? ⟨X, k * 4 + 3, none⟩ = some (.slice (r3 k).qt (f3 k).T.length (r3 k).ct)) ∧ w'.cell? ⟨B, k, none⟩ = some (.pointer (some ⟨(f3 k).b, 0, none⟩))) ∧ Ch No w3.drew w')) (by kernel_rfl) (K32 _ (Ch.refl _ _)) (fun hHeld => ?_)
              refine wpAnyH_take (i := 0) (v := ?_) (by simp only [List.getElem?_toArray, List.getElem?_cons_zero, List.getElem?_cons_succ]; exact rfl) (by kernel_rfl) (by kernel_rfl) (by kernel_rfl) (by intro _ _ _ h; exact h) (Or.inl ⟨by rfl, ?_⟩) (by assumption) ?_
              rotate_left
              · intro w hSw
                (try dsimp only at hSw)
                go_simp
                try (with_reducible rfl)
              try simp only [Act.put, List.setIfInBounds_toArray, List.set_cons_zero, List.set_cons_succ]
              refine wpAnyH_take (i := 2) (v := ?_) (by simp only [List.getElem?_toArray, List.getElem?_cons_zero, List.getElem?_cons_succ]; exact rfl) (by kernel_rfl) (by kernel_rfl) (by kernel_rfl) (by intro _ _ _ h; exact h) (Or.inl ⟨by rfl, ?_⟩) (by assumption) ?_
              rotate_left
              · intro w hSw
                (try dsimp only at hSw)
                go_simp
                try (with_reducible rfl)
              try simp only [Act.put, List.setIfInBounds_toArray, List.set_cons_zero, List.set_cons_succ]
              refine wpAnyH_take (i := 3) (v := ?_) (by simp only [List.getElem?_toArray, List.getElem?_cons_zero, List.getElem?_cons_succ]; exact rfl) (by kernel_rfl) (by kernel_rfl) (by kernel_rfl) (by intro _ _ _ h; exact h) (Or.inl ⟨by rfl, ?_⟩) (by assumption) ?_
              rotate_left
              · intro w hSw
                (try dsimp only at hSw)
                go_simp
                try (with_reducible rfl)
              try simp only [Act.put, List.setIfInBounds_toArray, List.set_cons_zero, List.set_cons_succ]
              refine wpAnyH_ready (rs := [1]) (by kernel_rfl) (by simp) ?_
              refine AllReadyH.cons (by simp only [List.getElem?_toArray, List.getElem?_cons_zero, List.getElem?_cons_succ]; exact rfl) (fun K hK => ?_) AllReadyH.nil
              go_simp
              (go_at_call 18; (with_reducible refine (hfr _ (And.right (by assumption))).mono ?_); rintro e w9 ⟨rfl, hc9⟩; have hS9 := K32 _ (Ch.trans (And.right (by assumption)) hc9); (try dsimp only))
              try go_wp2_with fail
              refine hK.out _ _ ?_ (fun hHeld => ?_)
              · try dsimp only
                first | assumption | exact (by assumption) | fail
              clear hK K
              try simp only [Act.put, List.setIfInBounds_toArray, List.set_cons_zero, List.set_cons_succ]
              refine wpAnyH_ready (rs := [4]) (by kernel_rfl) (by simp) ?_
              refine AllReadyH.cons (by simp only [List.getElem?_toArray, List.getElem?_cons_zero, List.getElem?_cons_succ]; exact rfl) (fun K hK => ?_) AllReadyH.nil
              go_simp
              (go_at_call 27; (with_reducible refine (hcn _ (And.right (by assumption))).mono ?_); rintro e w9 ⟨rfl, rfl⟩; (try dsimp only))
              try go_wp2_with fail
              refine hK.out _ _ ?_ (fun hHeld => ?_)
              · try dsimp only
                first | assumption | exact (by assumption) | fail
              clear hK K
              try simp only [Act.put, List.setIfInBounds_toArray, List.set_cons_zero, List.set_cons_succ]
              refine wpAnyH_take (i := 5) (v := ?_) (by simp only [List.getElem?_toArray, List.getElem?_cons_zero, List.getElem?_cons_succ]; exact rfl) (by kernel_rfl) (by kernel_rfl) (by kernel_rfl) (by intro _ _ _ h; exact h) (Or.inl ⟨by rfl, ?_⟩) (by assumption) ?_
              rotate_left
              · intro w hSw
                (try dsimp only at hSw)
                go_simp
                try (with_reducible rfl)
              try simp only [Act.put, List.setIfInBounds_toArray, List.set_cons_zero, List.set_cons_succ]
              refine wpAnyH_take (i := 6) (v := ?_) (by simp only [List.getElem?_toArray, List.getElem?_cons_zero, List.getElem?_cons_succ]; exact rfl) (by kernel_rfl) (by kernel_rfl) (by kernel_rfl) (by intro _ _ _ h; exact h) (Or.inl ⟨by rfl, ?_⟩) (by assumption) ?_
              rotate_left
              · intro w hSw
                (try dsimp only at hSw)
                go_simp
                try (with_reducible rfl)
              try simp only [Act.put, List.setIfInBounds_toArray, List.set_cons_zero, List.set_cons_succ]
              refine wpAnyH_take (i := 7) (v := ?_) (by simp only [List.getElem?_toArray, List.getElem?_cons_zero, List.getElem?_cons_succ]; exact rfl) (by kernel_rfl) (by kernel_rfl) (by kernel_rfl) (by intro _ _ _ h; exact h) (Or.inl ⟨by rfl, ?_⟩) (by assumption) ?_
              rotate_left
              · intro w hSw
                (try dsimp only at hSw)
                go_simp
                try (with_reducible rfl)
              try simp only [Act.put, List.setIfInBounds_toArray, List.set_cons_zero, List.set_cons_succ]
              refine wpAnyH_take (i := 8) (v := ?_) (by simp only [List.getElem?_toArray, List.getElem?_cons_zero, List.getElem?_cons_succ]; exact rfl) (by kernel_rfl) (by kernel_rfl) (by kernel_rfl) (by intro _ _ _ h; exact h) (Or.inl ⟨by rfl, ?_⟩) (by assumption) ?_
              rotate_left
              · intro w hSw
                (try dsimp only at hSw)
                go_simp
                try (with_reducible rfl)
              try simp only [Act.put, List.setIfInBounds_toArray, List.set_cons_zero, List.set_cons_succ]
              refine wpAnyH_take (i := 9) (v := ?_) (by simp only [List.getElem?_toArray, List.getElem?_cons_zero, List.getElem?_cons_succ]; exact rfl) (by kernel_rfl) (by kernel_rfl) (by kernel_rfl) (by intro _ _ _ h; exact h) (Or.inl ⟨by rfl, ?_⟩) (by assumption) ?_
              rotate_left
              · intro w hSw
                (try dsimp only at hSw)
                go_simp
                try (with_reducible rfl)
              try simp only [Act.put, List.setIfInBounds_toArray, List.set_cons_zero, List.set_cons_succ]
              refine wpAnyH_take (i := 10) (v := ?_) (by simp only [List.getElem?_toArray, List.getElem?_cons_zero, List.getElem?_cons_succ]; exact rfl) (by kernel_rfl) (by kernel_rfl) (by kernel_rfl) (by intro _ _ _ h; exact h) (Or.inl ⟨by rfl, ?_⟩) (by assumption) ?_
              rotate_left
              · intro w hSw
                (try dsimp only at hSw)
                go_simp
                try (with_reducible rfl)
              try simp only [Act.put, List.setIfInBounds_toArray, List.set_cons_zero, List.set_cons_succ]
              refine wpAnyH_take (i := 12) (v := ?_) (by simp only [List.getElem?_toArray, List.getElem?_cons_zero, List.getElem?_cons_succ]; exact rfl) (by kernel_rfl) (by kernel_rfl) (by kernel_rfl) (by intro _ _ _ h; exact h) (Or.inl ⟨by rfl, ?_⟩) (by assumption) ?_
              rotate_left
              · intro w hSw
                (try dsimp only at hSw)
                go_simp
                try (with_reducible rfl)
              try simp only [Act.put, List.setIfInBounds_toArray, List.set_cons_zero, List.set_cons_succ]
              refine wpAnyH_take (i := 13) (v := ?_) (by simp only [List.getElem?_toArray, List.getElem?_cons_zero, List.getElem?_cons_succ]; exact rfl) (by kernel_rfl) (by kernel_rfl) (by kernel_rfl) (by intro _ _ _ h; exact h) (Or.inl ⟨by rfl, ?_⟩) (by assumption) ?_
              rotate_left
              · intro w hSw
                (try dsimp only at hSw)
                go_simp
                try (with_reducible rfl)
              try simp only [Act.put, List.setIfInBounds_toArray, List.set_cons_zero, List.set_cons_succ]
              refine wpAnyH_take (i := 14) (v := ?_) (by simp only [List.getElem?_toArray, List.getElem?_cons_zero, List.getElem?_cons_succ]; exact rfl) (by kernel_rfl) (by kernel_rfl) (by kernel_rfl) (by intro _ _ _ h; exact h) (Or.inl ⟨by rfl, ?_⟩) (by assumption) ?_
              rotate_left
              · intro w hSw
                (try dsimp only at hSw)
                go_simp
                try (with_reducible rfl)
              try simp only [Act.put, List.setIfInBounds_toArray, List.set_cons_zero, List.set_cons_succ]
              refine wpAnyH_take (i := 15) (v := ?_) (by simp only [List.getElem?_toArray, List.getElem?_cons_zero, List.getElem?_cons_succ]; exact rfl) (by kernel_rfl) (by kernel_rfl) (by kernel_rfl) (by intro _ _ _ h; exact h) (Or.inl ⟨by rfl, ?_⟩) (by assumption) ?_
              rotate_left
              · intro w hSw
                (try dsimp only at hSw)
                go_simp
                try (with_reducible rfl)
              try simp only [Act.put, List.setIfInBounds_toArray, List.set_cons_zero, List.set_cons_succ]
              refine wpAnyH_ready (rs := [11]) (by kernel_rfl) (by simp) ?_
              refine AllReadyH.cons (by simp only [List.getElem?_toArray, List.getElem?_cons_zero, List.getElem?_cons_succ]; exact rfl) (fun K hK => ?_) AllReadyH.nil
              go_simp
              (go_at_call 17; (with_reducible refine (hrn _ (And.right (by assumption))).mono ?_); rintro e w9 ⟨qn, cn, rfl, hsn, hc9⟩; have hS9 := K32 _ (Ch.trans (And.right (by assumption)) hc9); (try dsimp only))
              try go_wp2_with fail
              refine hK.out _ _ ?_ (fun hHeld => ?_)
              · try dsimp only
                first | assumption | exact (by assumption) | fail
              clear hK K
              try simp only [Act.put, List.setIfInBounds_toArray, List.set_cons_zero, List.set_cons_succ]
              refine wpAnyH_ready (rs := [16]) (by kernel_rfl) (by simp) ?_
              refine AllReadyH.cons (by simp only [List.getElem?_toArray, List.getElem?_cons_zero, List.getElem?_cons_succ]; exact rfl) (fun K hK => ?_) AllReadyH.nil
              go_simp
              (go_at_call 20; (with_reducible refine (hsm _ (And.right (by assumption)) qn cn hsn).mono ?_); rintro e w9 ⟨rfl, hc9⟩; have hS9 := K32 _ (Ch.trans (And.right (by assumption)) hc9); (try dsimp only))
              try go_wp2_with fail
              refine hK.out _ _ ?_ (fun hHeld => ?_)
              · try dsimp only
                first | assumption | exact (by assumption) | fail
              clear hK K
              try simp only [Act.put, List.setIfInBounds_toArray, List.set_cons_zero, List.set_cons_succ]
              refine wpAnyH_take (i := 17) (v := ?_) (by simp only [List.getElem?_toArray, List.getElem?_cons_zero, List.getElem?_cons_succ]; exact rfl) (by kernel_rfl) (by kernel_rfl) (by kernel_rfl) (by intro _ _ _ h; exact h) (Or.inl ⟨by rfl, ?_⟩) (by assumption) ?_
              rotate_left
              · intro w hSw
                (try dsimp only at hSw)
                go_simp
                try (with_reducible rfl)
              try simp only [Act.put, List.setIfInBounds_toArray, List.set_cons_zero, List.set_cons_succ]
              refine wpAnyH_take (i := 18) (v := ?_) (by simp only [List.getElem?_toArray, List.getElem?_cons_zero, List.getElem?_cons_succ]; exact rfl) (by kernel_rfl) (by kernel_rfl) (by kernel_rfl) (by intro _ _ _ h; exact h) (Or.inl ⟨by rfl, ?_⟩) (by assumption) ?_
              rotate_left
              · intro w hSw
                (try dsimp only at hSw)
                go_simp
                try (with_reducible rfl)
              try simp only [Act.put, List.setIfInBounds_toArray, List.set_cons_zero, List.set_cons_succ]
              refine wpAnyH_take (i := 19) (v := ?_) (by simp only [List.getElem?_toArray, List.getElem?_cons_zero, List.getElem?_cons_succ]; exact rfl) (by kernel_rfl) (by kernel_rfl) (by kernel_rfl) (by intro _ _ _ h; exact h) (Or.inl ⟨by rfl, ?_⟩) (by assumption) ?_
              rotate_left
              · intro w hSw
                (try dsimp only at hSw)
                go_simp
                try (with_reducible rfl)
              try simp only [Act.put, List.setIfInBounds_toArray, List.set_cons_zero, List.set_cons_succ]
              refine wpAnyH_take (i := 20) (v := ?_) (by simp only [List.getElem?_toArray, List.getElem?_cons_zero, List.getElem?_cons_succ]; exact rfl) (by kernel_rfl) (by kernel_rfl) (by kernel_rfl) (by intro _ _ _ h; exact h) (Or.inl ⟨by rfl, ?_⟩) (by assumption) ?_
              rotate_left
              · intro w hSw
                (try dsimp only at hSw)
                go_simp
                try (with_reducible rfl)
              try simp only [Act.put, List.setIfInBounds_toArray, List.set_cons_zero, List.set_cons_succ]
              refine wpAnyH_take (i := 21) (v := ?_) (by simp only [List.getElem?_toArray, List.getElem?_cons_zero, List.getElem?_cons_succ]; exact rfl) (by kernel_rfl) (by kernel_rfl) (by kernel_rfl) (by intro _ _ _ h; exact h) (Or.inl ⟨by rfl, ?_⟩) (by assumption) ?_
              rotate_left
              · intro w hSw
                (try dsimp only at hSw)
                go_simp
                try (with_reducible rfl)
              try simp only [Act.put, List.setIfInBounds_toArray, List.set_cons_zero, List.set_cons_succ]
              refine wpAnyH_take (i := 22) (v := ?_) (by simp only [List.getElem?_toArray, List.getElem?_cons_zero, List.getElem?_cons_succ]; exact rfl) (by kernel_rfl) (by kernel_rfl) (by kernel_rfl) (by intro _ _ _ h; exact h) (Or.inl ⟨by rfl, ?_⟩) (by assumption) ?_
              rotate_left
              · intro w hSw
                (try dsimp only at hSw)
                go_simp
                try (with_reducible rfl)
              try simp only [Act.put, List.setIfInBounds_toArray, List.set_cons_zero, List.set_cons_succ]
              refine wpAnyH_take (i := 24) (v := ?_) (by simp only [List.getElem?_toArray, List.getElem?_cons_zero, List.getElem?_cons_succ]; exact rfl) (by kernel_rfl) (by kernel_rfl) (by kernel_rfl) (by intro _ _ _ h; exact h) (Or.inl ⟨by rfl, ?_⟩) (by assumption) ?_
              rotate_left
              · intro w hSw
                (try dsimp only at hSw)
                go_simp
                try (with_reducible rfl)
              try simp only [Act.put, List.setIfInBounds_toArray, List.set_cons_zero, List.set_cons_succ]
              refine wpAnyH_take (i := 25) (v := ?_) (by simp only [List.getElem?_toArray, List.getElem?_cons_zero, List.getElem?_cons_succ]; exact rfl) (by kernel_rfl) (by kernel_rfl) (by kernel_rfl) (by intro _ _ _ h; exact h) (Or.inl ⟨by rfl, ?_⟩) (by assumption) ?_
              rotate_left
              · intro w hSw
                (try dsimp only at hSw)
                go_simp
                try (with_reducible rfl)
              try simp only [Act.put, List.setIfInBounds_toArray, List.set_cons_zero, List.set_cons_succ]
              refine wpAnyH_take (i := 26) (v := ?_) (by simp only [List.getElem?_toArray, List.getElem?_cons_zero, List.getElem?_cons_succ]; exact rfl) (by kernel_rfl) (by kernel_rfl) (by kernel_rfl) (by intro _ _ _ h; exact h) (Or.inl ⟨by rfl, ?_⟩) (by assumption) ?_
              rotate_left
              · intro w hSw
                (try dsimp only at hSw)
                go_simp
                try (with_reducible rfl)
              try simp only [Act.put, List.setIfInBounds_toArray, List.set_cons_zero, List.set_cons_succ]
              refine wpAnyH_take (i := 27) (v := ?_) (by simp only [List.getElem?_toArray, List.getElem?_cons_zero, List.getElem?_cons_succ]; exact rfl) (by kernel_rfl) (by kernel_rfl) (by kernel_rfl) (by intro _ _ _ h; exact h) (Or.inl ⟨by rfl, ?_⟩) (by assumption) ?_
              rotate_left
              · intro w hSw
                (try dsimp only at hSw)
                go_simp
                try (with_reducible rfl)
              try simp only [Act.put, List.setIfInBounds_toArray, List.set_cons_zero, List.set_cons_succ]
              refine wpAnyH_ready (rs := [23]) (by kernel_rfl) (by simp) ?_
              refine AllReadyH.cons (by simp only [List.getElem?_toArray, List.getElem?_cons_zero, List.getElem?_cons_succ]; exact rfl) (fun K hK => ?_) AllReadyH.nil
              go_simp
              (go_at_call 16; (with_reducible refine (htn _ (And.right (by assumption))).mono ?_); rintro e w9 ⟨qm, cm, rfl, hsm2, hc9⟩; have hS9 := K32 _ (Ch.trans (And.right (by assumption)) hc9); (try dsimp only))
              try go_wp2_with fail
              refine hK.out _ _ ?_ (fun hHeld => ?_)
              · try dsimp only
                first | assumption | exact (by assumption) | fail
              clear hK K
              try simp only [Act.put, List.setIfInBounds_toArray, List.set_cons_zero, List.set_cons_succ]
              refine wpAnyH_ready (rs := [28]) (by kernel_rfl) (by simp) ?_
              refine AllReadyH.cons (by simp only [List.getElem?_toArray, List.getElem?_cons_zero, List.getElem?_cons_succ]; exact rfl) (fun K hK => ?_) AllReadyH.nil
              go_simp
              (go_at_call 20; (with_reducible refine (hsm' _ (And.right (by assumption)) qm cm hsm2).mono ?_); rintro e w9 ⟨rfl, hc9⟩; have hS9 := K32 _ (Ch.trans (And.right (by assumption)) hc9); (try dsimp only))
              try go_wp2_with fail
              refine hK.out _ _ ?_ (fun hHeld => ?_)
              · try dsimp only
                first | assumption | exact (by assumption) | fail
              clear hK K
              try simp only [Act.put, List.setIfInBounds_toArray, List.set_cons_zero, List.set_cons_succ]
              refine wpAnyH_take (i := 29) (v := ?_) (by simp only [List.getElem?_toArray, List.getElem?_cons_zero, List.getElem?_cons_succ]; exact rfl) (by kernel_rfl) (by kernel_rfl) (by kernel_rfl) (by intro _ _ _ h; exact h) (Or.inl ⟨by rfl, ?_⟩) (by assumption) ?_
              rotate_left
              · intro w hSw
                (try dsimp only at hSw)
                go_simp
                try (with_reducible rfl)
              try simp only [Act.put, List.setIfInBounds_toArray, List.set_cons_zero, List.set_cons_succ]
              refine wpAnyH_take (i := 30) (v := ?_) (by simp only [List.getElem?_toArray, List.getElem?_cons_zero, List.getElem?_cons_succ]; exact rfl) (by kernel_rfl) (by kernel_rfl) (by kernel_rfl) (by intro _ _ _ h; exact h) (Or.inl ⟨by rfl, ?_⟩) (by assumption) ?_
              rotate_left
              · intro w hSw
                (try dsimp only at hSw)
                go_simp
                try (with_reducible rfl)
              try simp only [Act.put, List.setIfInBounds_toArray, List.set_cons_zero, List.set_cons_succ]
              refine wpAnyH_take (i := 31) (v := ?_) (by simp only [List.getElem?_toArray, List.getElem?_cons_zero, List.getElem?_cons_succ]; exact rfl) (by kernel_rfl) (by kernel_rfl) (by kernel_rfl) (by intro _ _ _ h; exact h) (Or.inl ⟨by rfl, ?_⟩) (by assumption) ?_
              rotate_left
              · intro w hSw
                (try dsimp only at hSw)
                go_simp
                try (with_reducible rfl)
              try simp only [Act.put, List.setIfInBounds_toArray, List.set_cons_zero, List.set_cons_succ]
              refine wpAnyH_take (i := 32) (v := ?_) (by simp only [List.getElem?_toArray, List.getElem?_cons_zero, List.getElem?_cons_succ]; exact rfl) (by kernel_rfl) (by kernel_rfl) (by kernel_rfl) (by intro _ _ _ h; exact h) (Or.inl ⟨by rfl, ?_⟩) (by assumption) ?_
              rotate_left
              · intro w hSw
                (try dsimp only at hSw)
                go_simp
                try (with_reducible rfl)
              try simp only [Act.put, List.setIfInBounds_toArray, List.set_cons_zero, List.set_cons_succ]
              refine wpAnyH_take (i := 33) (v := ?_) (by simp only [List.getElem?_toArray, List.getElem?_cons_zero, List.getElem?_cons_succ]; exact rfl) (by kernel_rfl) (by kernel_rfl) (by kernel_rfl) (by intro _ _ _ h; exact h) (Or.inl ⟨by rfl, ?_⟩) (by assumption) ?_
              rotate_left
              · intro w hSw
                (try dsimp only at hSw)
                go_simp
                try (with_reducible rfl)
              try simp only [Act.put, List.setIfInBounds_toArray, List.set_cons_zero, List.set_cons_succ]
              refine wpAnyH_take (i := 34) (v := ?_) (by simp only [List.getElem?_toArray, List.getElem?_cons_zero, List.getElem?_cons_succ]; exact rfl) (by kernel_rfl) (by kernel_rfl) (by kernel_rfl) (by intro _ _ _ h; exact h) (Or.inl ⟨by rfl, ?_⟩) (by assumption) ?_
              rotate_left
              · intro w hSw
                (try dsimp only at hSw)
                go_simp
                try (with_reducible rfl)
              try simp only [Act.put, List.setIfInBounds_toArray, List.set_cons_zero, List.set_cons_succ]
              refine wpAnyH_take (i := 36) (v := ?_) (by simp only [List.getElem?_toArray, List.getElem?_cons_zero, List.getElem?_cons_succ]; exact rfl) (by kernel_rfl) (by kernel_rfl) (by kernel_rfl) (by intro _ _ _ h; exact h) (Or.inl ⟨by rfl, ?_⟩) (by assumption) ?_
              rotate_left
              · intro w hSw
                (try dsimp only at hSw)
                go_simp
                try (with_reducible rfl)
              try simp only [Act.put, List.setIfInBounds_toArray, List.set_cons_zero, List.set_cons_succ]
              refine wpAnyH_take (i := 37) (v := ?_) (by simp only [List.getElem?_toArray, List.getElem?_cons_zero, List.getElem?_cons_succ]; exact rfl) (by kernel_rfl) (by kernel_rfl) (by kernel_rfl) (by intro _ _ _ h; exact h) (Or.inl ⟨by rfl, ?_⟩) (by assumption) ?_
              rotate_left
              · intro w hSw
                (try dsimp only at hSw)
                go_simp
                try (with_reducible rfl)
              try simp only [Act.put, List.setIfInBounds_toArray, List.set_cons_zero, List.set_cons_succ]
              refine wpAnyH_take (i := 38) (v := ?_) (by simp only [List.getElem?_toArray, List.getElem?_cons_zero, List.getElem?_cons_succ]; exact rfl) (by kernel_rfl) (by kernel_rfl) (by kernel_rfl) (by intro _ _ _ h; exact h) (Or.inl ⟨by rfl, ?_⟩) (by assumption) ?_
              rotate_left
              · intro w hSw
                (try dsimp only at hSw)
                go_simp
                try (with_reducible rfl)
              try simp only [Act.put, List.setIfInBounds_toArray, List.set_cons_zero, List.set_cons_succ]
              refine wpAnyH_ready (rs := [35]) (by kernel_rfl) (by simp) ?_
              refine AllReadyH.cons (by simp only [List.getElem?_toArray, List.getElem?_cons_zero, List.getElem?_cons_succ]; exact rfl) (fun K hK => ?_) AllReadyH.nil
              go_simp
              (go_at_call 12; (with_reducible refine (hpg _ (And.right (by assumption))).mono ?_); rintro e w9 ⟨rfl, hc9⟩; have hS9 := K32 _ (Ch.trans (And.right (by assumption)) hc9); (try dsimp only))
              try go_wp2_with fail
              refine hK.out _ _ ?_ (fun hHeld => ?_)
              · try dsimp only
                first | assumption | exact (by assumption) | fail
              clear hK K
              try simp only [Act.put, List.setIfInBounds_toArray, List.set_cons_zero, List.set_cons_succ]
              refine wpAnyH_ready (rs := [39]) (by kernel_rfl) (by simp) ?_
              refine AllReadyH.cons (by simp only [List.getElem?_toArray, List.getElem?_cons_zero, List.getElem?_cons_succ]; exact rfl) (fun K hK => ?_) AllReadyH.nil
              go_simp
              (go_at_call 28; (with_reducible refine (hrp _ (And.right (by assumption))).mono ?_); rintro e w9 ⟨rfl, hc9⟩; have hS9 := K32 _ (Ch.trans (And.right (by assumption)) hc9); (try dsimp only))
              try go_wp2_with fail
              refine hK.out _ _ ?_ (fun hHeld => ?_)
              · try dsimp only
                first | assumption | exact (by assumption) | fail
              clear hK K
              try simp only [Act.put, List.setIfInBounds_toArray, List.set_cons_zero, List.set_cons_succ]
              refine wpAnyH_take (i := 40) (v := ?_) (by simp only [List.getElem?_toArray, List.getElem?_cons_zero, List.getElem?_cons_succ]; exact rfl) (by kernel_rfl) (by kernel_rfl) (by kernel_rfl) (by intro _ _ _ h; exact h) (Or.inl ⟨by rfl, ?_⟩) (by assumption) ?_
              rotate_left
              · intro w hSw
                (try dsimp only at hSw)
                go_simp
                try (with_reducible rfl)
              try simp only [Act.put, List.setIfInBounds_toArray, List.set_cons_zero, List.set_cons_succ]
              refine wpAnyH_take (i := 41) (v := ?_) (by simp only [List.getElem?_toArray, List.getElem?_cons_zero, List.getElem?_cons_succ]; exact rfl) (by kernel_rfl) (by kernel_rfl) (by kernel_rfl) (by intro _ _ _ h; exact h) (Or.inl ⟨by rfl, ?_⟩) (by assumption) ?_
              rotate_left
              · intro w hSw
                (try dsimp only at hSw)
                go_simp
                try (with_reducible rfl)
              try simp only [Act.put, List.setIfInBounds_toArray, List.set_cons_zero, List.set_cons_succ]
              refine wpAnyH_done (by kernel_rfl) ?_ _
              have hcF : Ch No w3 _ := hd3.trans hS9.2
              have hsF := hcF.size
              try go_wp2_with fail
              go_roundw
              case rel => exact ⟨i + 1, f3, r3, x3, W3, q3, c3, by omega, by go_num, rfl, hM3.ch0 hcF, hP3.ch hcF (fun q => q), hk3.ch0 hcF, HI3.out, HX3.out, HRT.out, hG3.then0 hcF, hn3.ch hcF (fun q => q), by omega, hX3.ch hcF (fun q => q), hrw3.ch0 hcF, hq3.ch0 hcF⟩
              case measure => exact meas_lt (by omega)
            | false =>
              have hdr : Ch No wa wa.drew := (Ch.refl _ _).drew
              have hMd := hMa.ch0 hdr
              have hPd := hPa.ch hdr (fun q => q)
              have hkd := hka.ch0 hdr
              have hnd := hna.ch hdr (fun q => q)
              have hGd := hGa.then0 hdr
              have hdd := hdr.heap hda (fun q => q)
              have hsd := hdr.size
              have hXd := hXa.ch hdr (fun q => q)
              have hrwd := hrwa.ch0 hdr
              have hqd := hqa.ch0 hdr
              have hok := (hM.ar k hk4).plan.ok
              have hcx := hXd.cells hk4
              have hcz := cellOf hdd 1 rfl
              have K26 : ∀ W', Ch No wa.drew W' → (fun w' : World => ((w'.cell? ⟨X, k * 4, none⟩ = some (.int .i64 (refPg (f k).pg)) ∧ w'.cell? ⟨X, k * 4 + 1, none⟩ = some (.int .i64 (16 - (f k).us)) ∧ w'.cell? ⟨X, k * 4 + 2, none⟩ = some (.slice (r k).qr (f k).R.length (r k).cr) ∧ w'.cell? ⟨X, k * 4 + 3, none⟩ = some (.slice (r k).qt (f k).T.length (r k).ct)) ∧ w'.cell? ⟨wr.heap.size, 1, none⟩ = some (.int .i64 sz)) ∧ Ch No wa.drew w') W' := fun W' hc => ⟨⟨⟨hc.cell hcx.1 (fun q => q), hc.cell hcx.2.1 (fun q => q), hc.cell hcx.2.2.1 (fun q => q), hc.cell hcx.2.2.2 (fun q => q)⟩, hc.cell hcz (fun q => q)⟩, hc⟩
              have hFd : ∀ q, H11 X g h' f q → q < wa.drew.heap.size := fun q z => by
                rcases z with z | ⟨j, hj, z⟩
                · omega
                · exact (hMd.bd hj z).2
              have hra0 := fun (W' : World) (hc : Ch No wa.drew W') => ref11_Alloc (fun q => H11 X g h' f q ∨ (q = wa.drew.heap.size ∧ wa.drew.heap.size < W'.heap.size)) W' (f k).pg (f k).us (r k).qr (r k).cr (f k).R (r k).qt (r k).ct (f k).T qg cg x sz hok ((hqd.more (fun q z => z.imp id (fun y => by omega))).ch0 hc) (by omega) (((hrwd k hk4).1.more (fun q z => z.imp id (fun y => by omega))).ch0 hc) (((hrwd k hk4).2.more (fun q z => z.imp id (fun y => by omega))).ch0 hc) (by have := (hRT k hk4).1; omega) (by have := (hRT k hk4).2; omega) i1 (fun q z => by
                have := hc.size
                rcases z with z | z
                · have := hFd q z; omega
                · omega)
              rw [hxl] at hra0
              have hra := hra0
              have HXL0 := Lib.hid hxl
              have HSA := Lib.hid hsa
              clear hra0 hsa
              go_wp2_with fail
              rw [← HWA.out]
              refine wp_region_held_drew (S := (fun w' : World => ((w'.cell? ⟨X, k * 4, none⟩ = some (.int .i64 (refPg (f k).pg)) ∧ w'.cell? ⟨X, k * 4 + 1, none⟩ = some (.int .i64 (16 - (f k).us)) ∧ w'.cell? ⟨X, k * 4 + 2, none⟩ = some (.slice (r k).qr (f k).R.length (r k).cr) ∧ w'.cell? ⟨X, k * 4 + 3, none⟩ = some (.slice (r k).qt (f k).T.length (r k).ct)) ∧ w'.cell? ⟨wr.heap.size, 1, none⟩ = some (.int .i64 sz)) ∧ Ch No wa.drew w')) (by kernel_rfl) (K26 _ (Ch.refl _ _)) (fun hHeld => ?_)
              refine wpAnyH_take (i := 0) (v := ?_) (by simp only [List.getElem?_toArray, List.getElem?_cons_zero, List.getElem?_cons_succ]; exact rfl) (by kernel_rfl) (by kernel_rfl) (by kernel_rfl) (by intro _ _ _ h; exact h) (Or.inl ⟨by rfl, ?_⟩) (by assumption) ?_
              rotate_left
              · intro w hSw
                (try dsimp only at hSw)
                go_simp
                try (with_reducible rfl)
              try simp only [Act.put, List.setIfInBounds_toArray, List.set_cons_zero, List.set_cons_succ]
              refine wpAnyH_take (i := 1) (v := ?_) (by simp only [List.getElem?_toArray, List.getElem?_cons_zero, List.getElem?_cons_succ]; exact rfl) (by kernel_rfl) (by kernel_rfl) (by kernel_rfl) (by intro _ _ _ h; exact h) (Or.inl ⟨by rfl, ?_⟩) (by assumption) ?_
              rotate_left
              · intro w hSw
                (try dsimp only at hSw)
                go_simp
                try (with_reducible rfl)
              try simp only [Act.put, List.setIfInBounds_toArray, List.set_cons_zero, List.set_cons_succ]
              refine wpAnyH_take (i := 2) (v := ?_) (by simp only [List.getElem?_toArray, List.getElem?_cons_zero, List.getElem?_cons_succ]; exact rfl) (by kernel_rfl) (by kernel_rfl) (by kernel_rfl) (by intro _ _ _ h; exact h) (Or.inl ⟨by rfl, ?_⟩) (by assumption) ?_
              rotate_left
              · intro w hSw
                (try dsimp only at hSw)
                go_simp
                try (with_reducible rfl)
              try simp only [Act.put, List.setIfInBounds_toArray, List.set_cons_zero, List.set_cons_succ]
              refine wpAnyH_take (i := 3) (v := ?_) (by simp only [List.getElem?_toArray, List.getElem?_cons_zero, List.getElem?_cons_succ]; exact rfl) (by kernel_rfl) (by kernel_rfl) (by kernel_rfl) (by intro _ _ _ h; exact h) (Or.inl ⟨by rfl, ?_⟩) (by assumption) ?_
              rotate_left
              · intro w hSw
                (try dsimp only at hSw)
                go_simp
                try (with_reducible rfl)
              try simp only [Act.put, List.setIfInBounds_toArray, List.set_cons_zero, List.set_cons_succ]
              refine wpAnyH_take (i := 4) (v := ?_) (by simp only [List.getElem?_toArray, List.getElem?_cons_zero, List.getElem?_cons_succ]; exact rfl) (by kernel_rfl) (by kernel_rfl) (by kernel_rfl) (by intro _ _ _ h; exact h) (Or.inl ⟨by rfl, ?_⟩) (by assumption) ?_
              rotate_left
              · intro w hSw
                (try dsimp only at hSw)
                go_simp
                try (with_reducible rfl)
              try simp only [Act.put, List.setIfInBounds_toArray, List.set_cons_zero, List.set_cons_succ]
              refine wpAnyH_take (i := 5) (v := ?_) (by simp only [List.getElem?_toArray, List.getElem?_cons_zero, List.getElem?_cons_succ]; exact rfl) (by kernel_rfl) (by kernel_rfl) (by kernel_rfl) (by intro _ _ _ h; exact h) (Or.inl ⟨by rfl, ?_⟩) (by assumption) ?_
              rotate_left
              · intro w hSw
                (try dsimp only at hSw)
                go_simp
                try (with_reducible rfl)
              try simp only [Act.put, List.setIfInBounds_toArray, List.set_cons_zero, List.set_cons_succ]
              refine wpAnyH_ready (rs := [6, 12]) (by kernel_rfl) (by simp) ?_
              refine AllReadyH.cons (by simp only [List.getElem?_toArray, List.getElem?_cons_zero, List.getElem?_cons_succ]; exact rfl) (fun K hK => ?_) ?_
              · go_simp
                go_at_call 26
                (with_reducible refine (hra _ (And.right (by assumption))).mono ?_)
                rintro e w9 ⟨q1, c1, x1, pg1, us1, qr1, cr1, R1, qt1, ct1, T1, a1, E1, rfl, hx9, hR9, hT9, hc9, hto⟩
                have hS9 := K26 _ (Ch.trans (And.right (by assumption)) hc9)
                (try dsimp only)
                try go_wp2_with fail
                refine hK.out _ _ ?_ (fun hHeld => ?_)
                · try dsimp only
                  first | assumption | exact (by assumption) | fail
                clear hK K
                try simp only [Act.put, List.setIfInBounds_toArray, List.set_cons_zero, List.set_cons_succ]
                refine wpAnyH_take (i := 7) (v := ?_) (by simp only [List.getElem?_toArray, List.getElem?_cons_zero, List.getElem?_cons_succ]; exact rfl) (by kernel_rfl) (by kernel_rfl) (by kernel_rfl) (by intro _ _ _ h; exact h) (Or.inl ⟨by rfl, ?_⟩) (by assumption) ?_
                rotate_left
                · intro w hSw
                  (try dsimp only at hSw)
                  go_simp
                  try (with_reducible rfl)
                try simp only [Act.put, List.setIfInBounds_toArray, List.set_cons_zero, List.set_cons_succ]
                refine wpAnyH_take (i := 8) (v := ?_) (by simp only [List.getElem?_toArray, List.getElem?_cons_zero, List.getElem?_cons_succ]; exact rfl) (by kernel_rfl) (by kernel_rfl) (by kernel_rfl) (by intro _ _ _ h; exact h) (Or.inl ⟨by rfl, ?_⟩) (by assumption) ?_
                rotate_left
                · intro w hSw
                  (try dsimp only at hSw)
                  go_simp
                  try (with_reducible rfl)
                try simp only [Act.put, List.setIfInBounds_toArray, List.set_cons_zero, List.set_cons_succ]
                refine wpAnyH_take (i := 9) (v := ?_) (by simp only [List.getElem?_toArray, List.getElem?_cons_zero, List.getElem?_cons_succ]; exact rfl) (by kernel_rfl) (by kernel_rfl) (by kernel_rfl) (by intro _ _ _ h; exact h) (Or.inl ⟨by rfl, ?_⟩) (by assumption) ?_
                rotate_left
                · intro w hSw
                  (try dsimp only at hSw)
                  go_simp
                  try (with_reducible rfl)
                try simp only [Act.put, List.setIfInBounds_toArray, List.set_cons_zero, List.set_cons_succ]
                refine wpAnyH_take (i := 10) (v := ?_) (by simp only [List.getElem?_toArray, List.getElem?_cons_zero, List.getElem?_cons_succ]; exact rfl) (by kernel_rfl) (by kernel_rfl) (by kernel_rfl) (by intro _ _ _ h; exact h) (Or.inl ⟨by rfl, ?_⟩) (by assumption) ?_
                rotate_left
                · intro w hSw
                  (try dsimp only at hSw)
                  go_simp
                  try (with_reducible rfl)
                try simp only [Act.put, List.setIfInBounds_toArray, List.set_cons_zero, List.set_cons_succ]
                refine wpAnyH_take (i := 11) (v := ?_) (by simp only [List.getElem?_toArray, List.getElem?_cons_zero, List.getElem?_cons_succ]; exact rfl) (by kernel_rfl) (by kernel_rfl) (by kernel_rfl) (by intro _ _ _ h; exact h) (Or.inl ⟨by rfl, ?_⟩) (by assumption) ?_
                rotate_left
                · intro w hSw
                  (try dsimp only at hSw)
                  go_simp
                  try (with_reducible rfl)
                try simp only [Act.put, List.setIfInBounds_toArray, List.set_cons_zero, List.set_cons_succ]
                have hSA := K26 _ (Ch.trans hS9.2 ((Ch.refl No w9).alloc (.cells #[.int .i64 0, .int .i64 0, .slice none 0 0, .slice none 0 0] 64)))
                obtain ⟨z, hz⟩ : ∃ z, z = w9.heap.size := ⟨_, rfl⟩
                refine wpAnyH_ready (rs := [12]) (by kernel_rfl) (by simp) ?_
                refine AllReadyH.cons (by simp only [List.getElem?_toArray, List.getElem?_cons_zero, List.getElem?_cons_succ]; exact rfl) (fun K hK => ?_) AllReadyH.nil
                go_simp
                try go_wp2_with fail
                refine hK.out _ _ ?_ (fun hHeld => ?_)
                · try dsimp only
                  first | assumption | exact hSA | fail
                clear hK K
                try simp only [Act.put, List.setIfInBounds_toArray, List.set_cons_zero, List.set_cons_succ]
                have hSB := K26 _ (Ch.trans hS9.2 ((Ch.refl No w9).alloc (.cells #[.int .i64 (refPg pg1), .int .i64 (16 - us1), .slice qr1 R1.length cr1, .slice qt1 T1.length ct1] 64)))
                refine wpAnyH_ready (rs := [13]) (by kernel_rfl) (by simp) ?_
                refine AllReadyH.cons (by simp only [List.getElem?_toArray, List.getElem?_cons_zero, List.getElem?_cons_succ]; exact rfl) (fun K hK => ?_) AllReadyH.nil
                go_simp
                try go_wp2_with fail
                refine hK.out _ _ ?_ (fun hHeld => ?_)
                · try dsimp only
                  first | assumption | exact hSB | fail
                clear hK K
                try simp only [Act.put, List.setIfInBounds_toArray, List.set_cons_zero, List.set_cons_succ]
                refine wpAnyH_take (i := 14) (v := ?_) (by simp only [List.getElem?_toArray, List.getElem?_cons_zero, List.getElem?_cons_succ]; exact rfl) (by kernel_rfl) (by kernel_rfl) (by kernel_rfl) (by intro _ _ _ h; exact h) (Or.inl ⟨by rfl, ?_⟩) (by assumption) ?_
                rotate_left
                · intro w hSw
                  (try dsimp only at hSw)
                  go_simp
                  try (with_reducible rfl)
                try simp only [Act.put, List.setIfInBounds_toArray, List.set_cons_zero, List.set_cons_succ]
                refine wpAnyH_take (i := 15) (v := ?_) (by simp only [List.getElem?_toArray, List.getElem?_cons_zero, List.getElem?_cons_succ]; exact rfl) (by kernel_rfl) (by kernel_rfl) (by kernel_rfl) (by intro _ _ _ h; exact h) (Or.inl ⟨by rfl, ?_⟩) (by assumption) ?_
                rotate_left
                · intro w hSw
                  (try dsimp only at hSw)
                  go_simp
                  try (with_reducible rfl)
                try simp only [Act.put, List.setIfInBounds_toArray, List.set_cons_zero, List.set_cons_succ]
                refine wpAnyH_take (i := 16) (v := ?_) (by simp only [List.getElem?_toArray, List.getElem?_cons_zero, List.getElem?_cons_succ]; exact rfl) (by kernel_rfl) (by kernel_rfl) (by kernel_rfl) (by intro _ _ _ h; exact h) (Or.inl ⟨by rfl, ?_⟩) (by assumption) ?_
                rotate_left
                · intro w hSw
                  (try dsimp only at hSw)
                  go_simp
                  try (with_reducible rfl)
                try simp only [Act.put, List.setIfInBounds_toArray, List.set_cons_zero, List.set_cons_succ]
                refine wpAnyH_done (by kernel_rfl) ?_ _
                rw [← hz]
                obtain ⟨w1r, hw1r⟩ : ∃ z, z = w9.alloc (.cells #[.int .i64 (refPg pg1), .int .i64 (16 - us1), .slice qr1 R1.length cr1, .slice qt1 T1.length ct1] 64) := ⟨_, rfl⟩
                rw [← hw1r] at hSB ⊢
                have hzc : w1r.heap[z]? = some (.cells #[.int .i64 (refPg pg1), .int .i64 (16 - us1), .slice qr1 R1.length cr1, .slice qt1 T1.length ct1] 64 (0, 0)) := by rw [hw1r, hz]; exact World.alloc_heap_new _ _
                have hcr : Ch No wa.drew w1r := hSB.2
                have hc91 : Ch No w9 w1r := by rw [hw1r]; exact (Ch.refl _ _).alloc _
                have hzb : z < w1r.heap.size ∧ wa.drew.heap.size ≤ z := ⟨heap_lt hzc, by have := hc9.size; have := (show Ch No wa.drew w9 from hS9.2).size; omega⟩
                have hx1r := (hx9.ch0 hc91).more (fun q hq => .inl (.inl hq))
                have hR1r := (hR9.ch0 hc91).more (fun q hq => .inl (.inl hq))
                have hT1r := (hT9.ch0 hc91).more (fun q hq => .inl (.inl hq))
                clear hw1r hz hSA hSB
                have hsa := HSA.out
                have hd1 : Ch No wa.drew w1r.drew := hcr.drew
                have hst1 : w1r.drew.cell? ⟨B, k, none⟩ = some (.pointer (some ⟨(f k).b, 0, none⟩)) ∧ w1r.drew.cell? ⟨wr.heap.size, 1, none⟩ = some (.int .i64 sz) := ⟨(hPd.ch hd1 (fun q => q)).cell hk4, hd1.cell (cellOf hdd 1 rfl) (fun q => q)⟩
                have hft := fun (W' : World) (hc : Ch No w1r.drew W') => arena_Fits W' base (f k).b (f k).p s p0 g m h' _ _ _ _ _ _ x W sz (((hMd.ar k hk4).ch0 hd1).ch0 hc) ((hkd.ch0 hd1).ch0 hc) ((hnd.ch hd1 (fun q => q)).ch hc (fun q => q)) i1
                have K27 : ∀ W', Ch No w1r.drew W' → (fun w' : World => (w'.cell? ⟨B, k, none⟩ = some (.pointer (some ⟨(f k).b, 0, none⟩)) ∧ w'.cell? ⟨wr.heap.size, 1, none⟩ = some (.int .i64 sz)) ∧ Ch No w1r.drew w') W' := fun W' hc => ⟨⟨hc.cell hst1.1 (fun q => q), hc.cell hst1.2 (fun q => q)⟩, hc⟩
                have hz1d := (show Ch No w1r w1r.drew from (Ch.refl _ _).drew).heap hzc (fun q => q)
                have hx1d := hx1r.ch0 (show Ch No w1r w1r.drew from (Ch.refl _ _).drew)
                have hR1d := hR1r.ch0 (show Ch No w1r w1r.drew from (Ch.refl _ _).drew)
                have hT1d := hT1r.ch0 (show Ch No w1r w1r.drew from (Ch.refl _ _).drew)
                have hzb1 : z < w1r.drew.heap.size ∧ wa.drew.heap.size ≤ z := ⟨heap_lt hz1d, hzb.2⟩
                have HTO := Lib.hid hto
                clear hto hzb hx1r hR1r hT1r hcr
                try go_wp2_with fail
                refine wp_region_held_drew (S := (fun w' : World => (w'.cell? ⟨B, k, none⟩ = some (.pointer (some ⟨(f k).b, 0, none⟩)) ∧ w'.cell? ⟨wr.heap.size, 1, none⟩ = some (.int .i64 sz)) ∧ Ch No w1r.drew w')) (by kernel_rfl) (K27 _ (Ch.refl _ _)) (fun hHeld => ?_)
                refine wpAnyH_take (i := 0) (v := ?_) (by simp only [List.getElem?_toArray, List.getElem?_cons_zero, List.getElem?_cons_succ]; exact rfl) (by kernel_rfl) (by kernel_rfl) (by kernel_rfl) (by intro _ _ _ h; exact h) (Or.inl ⟨by rfl, ?_⟩) (by assumption) ?_
                rotate_left
                · intro w hSw
                  (try dsimp only at hSw)
                  go_simp
                  try (with_reducible rfl)
                try simp only [Act.put, List.setIfInBounds_toArray, List.set_cons_zero, List.set_cons_succ]
                refine wpAnyH_take (i := 1) (v := ?_) (by simp only [List.getElem?_toArray, List.getElem?_cons_zero, List.getElem?_cons_succ]; exact rfl) (by kernel_rfl) (by kernel_rfl) (by kernel_rfl) (by intro _ _ _ h; exact h) (Or.inl ⟨by rfl, ?_⟩) (by assumption) ?_
                rotate_left
                · intro w hSw
                  (try dsimp only at hSw)
                  go_simp
                  try (with_reducible rfl)
                try simp only [Act.put, List.setIfInBounds_toArray, List.set_cons_zero, List.set_cons_succ]
                refine wpAnyH_take (i := 2) (v := ?_) (by simp only [List.getElem?_toArray, List.getElem?_cons_zero, List.getElem?_cons_succ]; exact rfl) (by kernel_rfl) (by kernel_rfl) (by kernel_rfl) (by intro _ _ _ h; exact h) (Or.inl ⟨by rfl, ?_⟩) (by assumption) ?_
                rotate_left
                · intro w hSw
                  (try dsimp only at hSw)
                  go_simp
                  try (with_reducible rfl)
                try simp only [Act.put, List.setIfInBounds_toArray, List.set_cons_zero, List.set_cons_succ]
                refine wpAnyH_take (i := 3) (v := ?_) (by simp only [List.getElem?_toArray, List.getElem?_cons_zero, List.getElem?_cons_succ]; exact rfl) (by kernel_rfl) (by kernel_rfl) (by kernel_rfl) (by intro _ _ _ h; exact h) (Or.inl ⟨by rfl, ?_⟩) (by assumption) ?_
                rotate_left
                · intro w hSw
                  (try dsimp only at hSw)
                  go_simp
                  try (with_reducible rfl)
                try simp only [Act.put, List.setIfInBounds_toArray, List.set_cons_zero, List.set_cons_succ]
                refine wpAnyH_take (i := 4) (v := ?_) (by simp only [List.getElem?_toArray, List.getElem?_cons_zero, List.getElem?_cons_succ]; exact rfl) (by kernel_rfl) (by kernel_rfl) (by kernel_rfl) (by intro _ _ _ h; exact h) (Or.inl ⟨by rfl, ?_⟩) (by assumption) ?_
                rotate_left
                · intro w hSw
                  (try dsimp only at hSw)
                  go_simp
                  try (with_reducible rfl)
                try simp only [Act.put, List.setIfInBounds_toArray, List.set_cons_zero, List.set_cons_succ]
                refine wpAnyH_ready (rs := [5]) (by kernel_rfl) (by simp) ?_
                refine AllReadyH.cons (by simp only [List.getElem?_toArray, List.getElem?_cons_zero, List.getElem?_cons_succ]; exact rfl) (fun K hK => ?_) AllReadyH.nil
                go_simp
                (go_at_call 10; (with_reducible refine (hft _ (And.right (by assumption))).mono ?_); rintro e w9 ⟨rv, rfl, hc9, hrv⟩; have hS9 := K27 _ (Ch.trans (And.right (by assumption)) hc9); (try dsimp only))
                try go_wp2_with fail
                refine hK.out _ _ ?_ (fun hHeld => ?_)
                · try dsimp only
                  first | assumption | exact (by assumption) | fail
                clear hK K
                try simp only [Act.put, List.setIfInBounds_toArray, List.set_cons_zero, List.set_cons_succ]
                refine wpAnyH_take (i := 6) (v := ?_) (by simp only [List.getElem?_toArray, List.getElem?_cons_zero, List.getElem?_cons_succ]; exact rfl) (by kernel_rfl) (by kernel_rfl) (by kernel_rfl) (by intro _ _ _ h; exact h) (Or.inl ⟨by rfl, ?_⟩) (by assumption) ?_
                rotate_left
                · intro w hSw
                  (try dsimp only at hSw)
                  go_simp
                  try (with_reducible rfl)
                try simp only [Act.put, List.setIfInBounds_toArray, List.set_cons_zero, List.set_cons_succ]
                refine wpAnyH_done (by kernel_rfl) ?_ _
                have hc2 : Ch No wa.drew w9 := hd1.trans hS9.2
                obtain ⟨w2, hw2⟩ : ∃ z, z = w9 := ⟨_, rfl⟩
                rw [← hw2] at hc2 hc9 hS9 ⊢
                clear hw2
                have hd2 : Ch No wa.drew w2.drew := hc2.drew
                have hd12 : Ch No w1r.drew w2.drew := hc9.drew
                have hz2d := hd12.heap hz1d (fun q => q)
                have hx2d := hx1d.ch0 hd12
                have hR2d := hR1d.ch0 hd12
                have hT2d := hT1d.ch0 hd12
                have hst : w2.drew.cell? ⟨B, k, none⟩ = some (.pointer (some ⟨(f k).b, 0, none⟩)) ∧ w2.drew.cell? ⟨wr.heap.size, 1, none⟩ = some (.int .i64 sz) := ⟨(hPd.ch hd2 (fun q => q)).cell hk4, hd2.cell (cellOf hdd 1 rfl) (fun q => q)⟩
                have hsd2 := hd2.size
                have hallc := arena_Alloc w2.drew base (f k).b (f k).p s p0 g m h' _ _ _ _ _ _ x W sz ((hMd.ar k hk4).ch0 hd2) (hkd.ch0 hd2) (hnd.ch hd2 (fun q => q)) i1 (fun q hq => by have := hfk q hq; omega) (by omega) (by have := (hRT k hk4).1; omega) (by have := (hRT k hk4).2; omega)
                have hrv2 := hrv 0 _ _ _ HTO.out
                have HRV := Lib.hid hrv2
                clear hrv hrv2 hft
                try go_wp2_with fail
                refine wp_region_held_drew (S := (fun w' : World => w'.cell? ⟨B, k, none⟩ = some (.pointer (some ⟨(f k).b, 0, none⟩)) ∧ w'.cell? ⟨wr.heap.size, 1, none⟩ = some (.int .i64 sz))) (by kernel_rfl) hst (fun hHeld => ?_)
                refine wpAnyH_take (i := 0) (v := ?_) (by simp only [List.getElem?_toArray, List.getElem?_cons_zero, List.getElem?_cons_succ]; exact rfl) (by kernel_rfl) (by kernel_rfl) (by kernel_rfl) (by intro _ _ _ h; exact h) (Or.inl ⟨by rfl, ?_⟩) (by assumption) ?_
                rotate_left
                · intro w hSw
                  (try dsimp only at hSw)
                  go_simp
                  try (with_reducible rfl)
                try simp only [Act.put, List.setIfInBounds_toArray, List.set_cons_zero, List.set_cons_succ]
                refine wpAnyH_take (i := 1) (v := ?_) (by simp only [List.getElem?_toArray, List.getElem?_cons_zero, List.getElem?_cons_succ]; exact rfl) (by kernel_rfl) (by kernel_rfl) (by kernel_rfl) (by intro _ _ _ h; exact h) (Or.inl ⟨by rfl, ?_⟩) (by assumption) ?_
                rotate_left
                · intro w hSw
                  (try dsimp only at hSw)
                  go_simp
                  try (with_reducible rfl)
                try simp only [Act.put, List.setIfInBounds_toArray, List.set_cons_zero, List.set_cons_succ]
                refine wpAnyH_take (i := 2) (v := ?_) (by simp only [List.getElem?_toArray, List.getElem?_cons_zero, List.getElem?_cons_succ]; exact rfl) (by kernel_rfl) (by kernel_rfl) (by kernel_rfl) (by intro _ _ _ h; exact h) (Or.inl ⟨by rfl, ?_⟩) (by assumption) ?_
                rotate_left
                · intro w hSw
                  (try dsimp only at hSw)
                  go_simp
                  try (with_reducible rfl)
                try simp only [Act.put, List.setIfInBounds_toArray, List.set_cons_zero, List.set_cons_succ]
                refine wpAnyH_take (i := 3) (v := ?_) (by simp only [List.getElem?_toArray, List.getElem?_cons_zero, List.getElem?_cons_succ]; exact rfl) (by kernel_rfl) (by kernel_rfl) (by kernel_rfl) (by intro _ _ _ h; exact h) (Or.inl ⟨by rfl, ?_⟩) (by assumption) ?_
                rotate_left
                · intro w hSw
                  (try dsimp only at hSw)
                  go_simp
                  try (with_reducible rfl)
                try simp only [Act.put, List.setIfInBounds_toArray, List.set_cons_zero, List.set_cons_succ]
                refine wpAnyH_take (i := 4) (v := ?_) (by simp only [List.getElem?_toArray, List.getElem?_cons_zero, List.getElem?_cons_succ]; exact rfl) (by kernel_rfl) (by kernel_rfl) (by kernel_rfl) (by intro _ _ _ h; exact h) (Or.inl ⟨by rfl, ?_⟩) (by assumption) ?_
                rotate_left
                · intro w hSw
                  (try dsimp only at hSw)
                  go_simp
                  try (with_reducible rfl)
                try simp only [Act.put, List.setIfInBounds_toArray, List.set_cons_zero, List.set_cons_succ]
                refine wpAnyH_ready (rs := [5]) (by kernel_rfl) (by simp) ?_
                refine AllReadyH.cons (by simp only [List.getElem?_toArray, List.getElem?_cons_zero, List.getElem?_cons_succ]; exact rfl) (fun K hK => ?_) AllReadyH.nil
                go_simp
                (go_at_call 8; (with_reducible refine hallc.mono ?_); rintro e w9 ⟨at_, E, x2, W2, pg2, us2, rv2, tv2, R2, T2, rfl, ha9, hk9, hc9, hf9, hto2⟩; have hS9 : w9.cell? ⟨B, k, none⟩ = some (.pointer (some ⟨(f k).b, 0, none⟩)) ∧ w9.cell? ⟨wr.heap.size, 1, none⟩ = some (.int .i64 sz) := ⟨hc9.cell hst.1 hFB, hc9.cell hst.2 hFb⟩; (try dsimp only))
                try go_wp2_with fail
                refine hK.out _ _ ?_ (fun hHeld => ?_)
                · try dsimp only
                  first | assumption | exact (by assumption) | fail
                clear hK K
                try simp only [Act.put, List.setIfInBounds_toArray, List.set_cons_zero, List.set_cons_succ]
                refine wpAnyH_take (i := 6) (v := ?_) (by simp only [List.getElem?_toArray, List.getElem?_cons_zero, List.getElem?_cons_succ]; exact rfl) (by kernel_rfl) (by kernel_rfl) (by kernel_rfl) (by intro _ _ _ h; exact h) (Or.inl ⟨by rfl, ?_⟩) (by assumption) ?_
                rotate_left
                · intro w hSw
                  (try dsimp only at hSw)
                  go_simp
                  try (with_reducible rfl)
                try simp only [Act.put, List.setIfInBounds_toArray, List.set_cons_zero, List.set_cons_succ]
                refine wpAnyH_take (i := 7) (v := ?_) (by simp only [List.getElem?_toArray, List.getElem?_cons_zero, List.getElem?_cons_succ]; exact rfl) (by kernel_rfl) (by kernel_rfl) (by kernel_rfl) (by intro _ _ _ h; exact h) (Or.inl ⟨by rfl, ?_⟩) (by assumption) ?_
                rotate_left
                · intro w hSw
                  (try dsimp only at hSw)
                  go_simp
                  try (with_reducible rfl)
                try simp only [Act.put, List.setIfInBounds_toArray, List.set_cons_zero, List.set_cons_succ]
                refine wpAnyH_take (i := 8) (v := ?_) (by simp only [List.getElem?_toArray, List.getElem?_cons_zero, List.getElem?_cons_succ]; exact rfl) (by kernel_rfl) (by kernel_rfl) (by kernel_rfl) (by intro _ _ _ h; exact h) (Or.inl ⟨by rfl, ?_⟩) (by assumption) ?_
                rotate_left
                · intro w hSw
                  (try dsimp only at hSw)
                  go_simp
                  try (with_reducible rfl)
                try simp only [Act.put, List.setIfInBounds_toArray, List.set_cons_zero, List.set_cons_succ]
                refine wpAnyH_take (i := 9) (v := ?_) (by simp only [List.getElem?_toArray, List.getElem?_cons_zero, List.getElem?_cons_succ]; exact rfl) (by kernel_rfl) (by kernel_rfl) (by kernel_rfl) (by intro _ _ _ h; exact h) (Or.inl ⟨by rfl, ?_⟩) (by assumption) ?_
                rotate_left
                · intro w hSw
                  (try dsimp only at hSw)
                  go_simp
                  try (with_reducible rfl)
                try simp only [Act.put, List.setIfInBounds_toArray, List.set_cons_zero, List.set_cons_succ]
                refine wpAnyH_take (i := 10) (v := ?_) (by simp only [List.getElem?_toArray, List.getElem?_cons_zero, List.getElem?_cons_succ]; exact rfl) (by kernel_rfl) (by kernel_rfl) (by kernel_rfl) (by intro _ _ _ h; exact h) (Or.inl ⟨by rfl, ?_⟩) (by assumption) ?_
                rotate_left
                · intro w hSw
                  (try dsimp only at hSw)
                  go_simp
                  try (with_reducible rfl)
                try simp only [Act.put, List.setIfInBounds_toArray, List.set_cons_zero, List.set_cons_succ]
                refine wpAnyH_done (by kernel_rfl) ?_ _
                have hux := AllocX.uniq (s := ⟨x, (f k).pg, (f k).us, (f k).R, (f k).T⟩) HTO.out (s2 := ⟨x2, pg2, us2, R2, T2⟩) ⟨W, W2, hto2⟩
                obtain ⟨hu1, hu2, hu3⟩ := hux
                injection hu3 with hu4 hu5 hu6 hu7 hu8
                have hu1 := hu1.symm; have hu2 := hu2.symm; have hu4 := hu4.symm; have hu5 := hu5.symm; have hu6 := hu6.symm; have hu7 := hu7.symm; have hu8 := hu8.symm
                subst hu1 hu2 hu4 hu5 hu6 hu7 hu8
                clear hallc
                obtain ⟨w8, hw8⟩ : ∃ z, z = w9 := ⟨_, rfl⟩
                rw [← hw8] at ha9 hk9 hc9 hS9 ⊢
                clear hw8
                have hmo := hto2.more
                have hs8 := hc9.size
                have hM8 := ((hMd.ch0 hd2).step (a := ⟨(f k).b, (f k).p, pg1, us1, rv2, tv2, R1, T1⟩) hk4 hc9 (by omega) ha9 hf9)
                have hP8 := ((hPd.ch hd2 (fun q => q)).ch hc9 (fun q => (hsub B q).1 rfl)).updB (a := ⟨(f k).b, (f k).p, pg1, us1, rv2, tv2, R1, T1⟩) (k := k) rfl
                obtain ⟨hI3, _⟩ := hI.alloc hk4 (by omega) (a := ⟨(f k).b, (f k).p, pg1, us1, rv2, tv2, R1, T1⟩) hto2
                have hgh : ∀ q, (footA (f k) q ∨ q = g ∨ q = h') → w0.heap.size ≤ q := fun q r => by
                  rcases r with r | r | r
                  · have := hfk _ r; omega
                  · omega
                  · omega
                have hn8 := (hnd.ch hd2 (fun q => q)).ch hc9 (fun q => by
                  rcases q with r | r | r
                  · have := hfk _ r; omega
                  · omega
                  · omega)
                have hG8 := (hGd.then0 hd2).andThen hc9 (fun q r => .inl (hgh q r))
                have hzz : ¬ (fun q => footA (f k) q ∨ q = g ∨ q = h') z := fun q => by
                  rcases q with r | r | r
                  · have := hfk z r; omega
                  · omega
                  · omega
                have hz8 := hc9.heap hz2d hzz
                have hXX : ¬ (fun q => footA (f k) q ∨ q = g ∨ q = h') X := fun q => by
                  rcases q with r | r | r
                  · have := hfk X r; omega
                  · omega
                  · omega
                have hX8 := ((hXd.ch hd2 (fun q => q))).ch hc9 hXX
                have hx8 := H11.step (A := ⟨(f k).b, (f k).p, pg1, us1, rv2, tv2, R1, T1⟩) hx2d hk4 hc9 hf9
                have hR8 := H11.step (A := ⟨(f k).b, (f k).p, pg1, us1, rv2, tv2, R1, T1⟩) hR2d hk4 hc9 hf9
                have hT8 := H11.step (A := ⟨(f k).b, (f k).p, pg1, us1, rv2, tv2, R1, T1⟩) hT2d hk4 hc9 hf9
                have hrw8 := Rows11.step (A := ⟨(f k).b, (f k).p, pg1, us1, rv2, tv2, R1, T1⟩) (s := ⟨qr1, cr1, qt1, ct1⟩) (hrwd.ch0 hd2) hk4 hc9 hf9 hR8 hT8
                have hRT8 : ∀ j, j < 4 → (upd f k ⟨(f k).b, (f k).p, pg1, us1, rv2, tv2, R1, T1⟩ j).R.length ≤ i + 1 ∧ (upd f k ⟨(f k).b, (f k).p, pg1, us1, rv2, tv2, R1, T1⟩ j).T.length ≤ i + 1 := fun j hj => by
                  have := hRT j hj
                  by_cases hjk : j = k
                  · subst hjk; rw [upd_same]; dsimp only; omega
                  · rw [upd_ne hjk]; omega
                have hxl8 : x1.length = N := by omega
                have zc0 := cellOf hz8 0 rfl
                have zc1 := cellOf hz8 1 rfl
                have zc2 := cellOf hz8 2 rfl
                have zc3 := cellOf hz8 3 rfl
                obtain ⟨xc0, xc1, xc2, xc3⟩ := hX8.cells hk4
                have xf0 := hX8.free (k * 4)
                have xf1 := hX8.free (k * 4 + 1)
                have xf2 := hX8.free (k * 4 + 2)
                have xf3 := hX8.free (k * 4 + 3)
                have hset := hX8.set hk4 (⟨(f k).b, (f k).p, pg1, us1, rv2, tv2, R1, T1⟩ : Ar) (⟨qr1, cr1, qt1, ct1⟩ : Sl4)
                dsimp only at hset
                have hchX : Ch (One X) w8 _ := Ch.setIn (F := One X) (Ch.setIn (F := One X) (Ch.setIn (F := One X) (Ch.setIn (F := One X) (Ch.refl _ w8) (p := ⟨X, k * 4, none⟩) rfl (.int .i64 (refPg pg1))) (p := ⟨X, k * 4 + 1, none⟩) rfl (.int .i64 (16 - us1))) (p := ⟨X, k * 4 + 2, none⟩) rfl (.slice qr1 R1.length cr1)) (p := ⟨X, k * 4 + 3, none⟩) rfl (.slice qt1 T1.length ct1)
                have bE : (rv == (E1 == 0)) = true := by rw [HRV.out]; by_cases e : E1 = 0 <;> simp [e]
                have HI8 := Lib.hid hI3; have HRT8 := Lib.hid hRT8; have HTO2 := Lib.hid hto2; have HXL := Lib.hid hxl8
                rw [hxl8]
                clear hI3 hRT8 hto2 hmo hxl8
                go_wp2_with fail
                obtain ⟨w3, hw3⟩ : ∃ z, z = ((((w8.setCell ⟨X, k * 4, none⟩ (.int .i64 (refPg pg1))).setCell ⟨X, k * 4 + 1, none⟩ (.int .i64 (16 - us1))).setCell ⟨X, k * 4 + 2, none⟩ (.slice qr1 R1.length cr1)).setCell ⟨X, k * 4 + 3, none⟩ (.slice qt1 T1.length ct1)) := ⟨_, rfl⟩
                rw [← hw3] at hset hchX ⊢
                obtain ⟨f3, hf3⟩ : ∃ z, z = upd f k ⟨(f k).b, (f k).p, pg1, us1, rv2, tv2, R1, T1⟩ := ⟨_, rfl⟩
                obtain ⟨r3, hr3⟩ : ∃ z, z = updS r k ⟨qr1, cr1, qt1, ct1⟩ := ⟨_, rfl⟩
                rw [← hf3] at hset hM8 hP8 hrw8 hx8 HI8 HRT8
                rw [← hr3] at hset hrw8
                have hX0 : ∀ q, One X q → q < base ∨ w8.heap.size ≤ q := fun q z => .inl (by have : q = X := z; omega)
                have hXH : ∀ q, One X q → H11 X g h' f3 q := fun q z => .inl (.inl z)
                have hM3 := hM8.ch hchX hX0
                have hP3 := hP8.ch hchX (fun q => by have : B = X := q; omega)
                have hk3 := hk9.ch hchX (fun q => by have : s = X := q; omega) (fun q => by have : p0 = X := q; omega) (fun q => by have : g = X := q; omega) (fun q => by have : m = X := q; omega) (fun q => by have : h' = X := q; omega)
                have hn3 := hn8.ch hchX (fun q => by have : 0 = X := q; omega)
                have hG3 := hG8.andThen hchX (fun q z => .inl (by have : q = X := z; show w0.heap.size ≤ q; omega))
                have hrw3 := hrw8.ch hchX hXH
                obtain ⟨q3, c3, hq3e⟩ : ∃ q3 c3, q3 = q1 ∧ c3 = c1 := ⟨_, _, rfl, rfl⟩
                obtain ⟨rfl, rfl⟩ := hq3e
                obtain ⟨x3, hx3⟩ : ∃ z, z = x1 := ⟨_, rfl⟩
                obtain ⟨W3, hW3⟩ : ∃ z, z = W2 := ⟨_, rfl⟩
                have hq3 := hx8.ch hchX hXH
                rw [← hx3] at hq3 hk3 HI8 HXL
                rw [← hW3] at hk3
                have hI3 := HI8.out; have hRT3 := HRT8.out; have hxl3 := HXL.out; have hX3 := hset
                have hs3 := hchX.size
                clear hx3 hW3 hf3 hr3 hw3 hset hM8 hP8 hrw8 hx8 HI8 HRT8 HXL hn8 hG8 hX0 hR8 hT8 hX8 hz8 zc0 zc1 zc2 zc3 xc0 xc1 xc2 xc3 xf0 xf1 xf2 xf3 HTO2
                have hAk := hM3.ar k hk4
                have hRk := (hRT3 k hk4)
                have hwk3 : Within11 (f3 k).R := (hI3.holds k hk4).within (by omega) (by omega)
                obtain ⟨C3, hC3⟩ : ∃ z, z = cntTo x3 x3.length := ⟨_, rfl⟩
                have hCle : C3 ≤ x3.length := by rw [hC3]; exact popB_le _ _
                obtain ⟨D3, hD3⟩ : ∃ z : Int, z = (N : Int) - (C3 : Int) := ⟨_, rfl⟩
                have ewD : IntKind.i64.wrap ((N : Int) - (C3 : Int)) = D3 := by rw [IntWalk.i64_in _ (by omega)]; exact hD3.symm
                obtain ⟨P3, hP3'⟩ : ∃ z, z = (pagesOf (f3 k).R).length := ⟨_, rfl⟩
                have hd3 : Ch No w3 w3.drew := (Ch.refl _ _).drew
                have hsz3 := hd3.size
                have hFs : ∀ W', Ch No w3.drew W' → ∀ q, H11 X g h' f3 q → q < W'.heap.size := fun W' hc q z => by
                  have h1 := hc.size
                  rcases z with z | ⟨j, hj, z⟩
                  · omega
                  · have := hM3.bd hj z
                    omega
                have hfr : ∀ W', Ch No w3.drew W' → Calls Tryd.prog 18 #[.pointer (some ⟨s, 0, none⟩)] W' fun e w' => e = .returned (.int .i64 D3) ∧ Ch No W' w' := fun W' hc => by
                  have := pages_Free W' s p0 g m h' x3 W3 ((hk3.ch0 hd3).ch0 hc)
                  rw [← hC3, hxl3, ← hD3] at this
                  exact this
                have hcn : ∀ W', Ch No w3.drew W' → Calls Tryd.prog 27 #[.slice q3 N c3] W' fun e w' => e = .returned (.int .i64 C3) ∧ W' = w' := fun W' hc => by
                  have := ref02_Count (H11 X g h' f3) W' q3 c3 x3 ((hq3.ch0 hd3).ch0 hc) (by omega)
                  rw [← hC3, hxl3] at this
                  exact this
                have hrn : ∀ W', Ch No w3.drew W' → Calls Tryd.prog 17 #[.pointer (some ⟨(f3 k).b, 0, none⟩)] W' fun e w' => ∃ q c', e = .returned (.slice q (f3 k).R.length c') ∧ SlR (pairRp .i64) No w' q c' (f3 k).R ∧ Ch No W' w' := fun W' hc => arena_Runs No W' base _ _ _ _ _ _ _ _ _ ((hAk.ch0 hd3).ch0 hc) (by omega) (no_lt _)
                have htn : ∀ W', Ch No w3.drew W' → Calls Tryd.prog 16 #[.pointer (some ⟨(f3 k).b, 0, none⟩)] W' fun e w' => ∃ q c', e = .returned (.slice q (f3 k).T.length c') ∧ SlR (pairRp .i64) No w' q c' (f3 k).T ∧ Ch No W' w' := fun W' hc => arena_Things No W' base _ _ _ _ _ _ _ _ _ ((hAk.ch0 hd3).ch0 hc) (by omega) (no_lt _)
                have hsm : ∀ W', Ch No w3.drew W' → ∀ qn cn, SlR (pairRp .i64) No W' qn cn (f3 k).R → Calls Tryd.prog 20 #[.slice qn (f3 k).R.length cn, .slice (r3 k).qr (f3 k).R.length (r3 k).cr] W' fun e w' => e = .returned (.bool true) ∧ Ch No W' w' := fun W' hc qn cn hq => by
                  have := ref06_Same No (H11 X g h' f3) W' _ _ _ _ _ _ hq (((hrw3 k hk4).1.ch0 hd3).ch0 hc) (by omega) (by omega)
                  rw [decide_eq_true rfl] at this
                  exact this
                have hsm' : ∀ W', Ch No w3.drew W' → ∀ qn cn, SlR (pairRp .i64) No W' qn cn (f3 k).T → Calls Tryd.prog 20 #[.slice qn (f3 k).T.length cn, .slice (r3 k).qt (f3 k).T.length (r3 k).ct] W' fun e w' => e = .returned (.bool true) ∧ Ch No W' w' := fun W' hc qn cn hq => by
                  have := ref06_Same No (H11 X g h' f3) W' _ _ _ _ _ _ hq (((hrw3 k hk4).2.ch0 hd3).ch0 hc) (by omega) (by omega)
                  rw [decide_eq_true rfl] at this
                  exact this
                have hpg : ∀ W', Ch No w3.drew W' → Calls Tryd.prog 12 #[.pointer (some ⟨(f3 k).b, 0, none⟩)] W' fun e w' => e = .returned (.int .i64 P3) ∧ Ch No W' w' := fun W' hc => by
                  rw [hP3']
                  exact arena_Pages W' base _ _ _ _ _ _ _ _ _ ((hAk.ch0 hd3).ch0 hc) hwk3
                have hrp : ∀ W', Ch No w3.drew W' → Calls Tryd.prog 28 #[.agg #[.int .i64 (refPg (f3 k).pg), .int .i64 (16 - (f3 k).us), .slice (r3 k).qr (f3 k).R.length (r3 k).cr, .slice (r3 k).qt (f3 k).T.length (r3 k).ct]] W' fun e w' => e = .returned (.int .i64 P3) ∧ Ch No W' w' := fun W' hc => by
                  rw [hP3']
                  exact ref11_Pages (H11 X g h' f3) W' _ _ _ _ _ _ _ _ (((hrw3 k hk4).1.ch0 hd3).ch0 hc) hwk3 (hFs W' hc)
                have hcx := (hX3.ch hd3 (fun q => q)).cells hk4
                have hcb := (hP3.ch hd3 (fun q => q)).cell hk4
                have K32 : ∀ W', Ch No w3.drew W' → (fun w' : World => ((w'.cell? ⟨X, k * 4, none⟩ = some (.int .i64 (refPg (f3 k).pg)) ∧ w'.cell? ⟨X, k * 4 + 1, none⟩ = some (.int .i64 (16 - (f3 k).us)) ∧ w'.cell? ⟨X, k * 4 + 2, none⟩ = some (.slice (r3 k).qr (f3 k).R.length (r3 k).cr) ∧ w'.cell? ⟨X, k * 4 + 3, none⟩ = some (.slice (r3 k).qt (f3 k).T.length (r3 k).ct)) ∧ w'.cell? ⟨B, k, none⟩ = some (.pointer (some ⟨(f3 k).b, 0, none⟩))) ∧ Ch No w3.drew w') W' := fun W' hc => ⟨⟨⟨hc.cell hcx.1 (fun q => q), hc.cell hcx.2.1 (fun q => q), hc.cell hcx.2.2.1 (fun q => q), hc.cell hcx.2.2.2 (fun q => q)⟩, hc.cell hcb (fun q => q)⟩, hc⟩
                have HI3 := Lib.hid hI3; have HRT := Lib.hid hRT3; have HX3 := Lib.hid hxl3
                clear hC3 hD3 hP3' hI3 hRT3 hxl3 hwk3
                clear hRk
                try go_wp2_with fail
                refine wp_region_held_drew (S := (fun w' : World => ((w'.cell? ⟨X, k * 4, none⟩ = some (.int .i64 (refPg (f3 k).pg)) ∧ w'.cell? ⟨X, k * 4 + 1, none⟩ = some (.int .i64 (16 - (f3 k).us)) ∧ w'.cell? ⟨X, k * 4 + 2, none⟩ = some (.slice (r3 k).qr (f3 k).R.length (r3 k).cr) ∧ w'.cell? ⟨X, k * 4 + 3, none⟩ = some (.slice (r3 k).qt (f3 k).T.length (r3 k).ct)) ∧ w'.cell? ⟨B, k, none⟩ = some (.pointer (some ⟨(f3 k).b, 0, none⟩))) ∧ Ch No w3.drew w')) (by kernel_rfl) (K32 _ (Ch.refl _ _)) (fun hHeld => ?_)
                refine wpAnyH_take (i := 0) (v := ?_) (by simp only [List.getElem?_toArray, List.getElem?_cons_zero, List.getElem?_cons_succ]; exact rfl) (by kernel_rfl) (by kernel_rfl) (by kernel_rfl) (by intro _ _ _ h; exact h) (Or.inl ⟨by rfl, ?_⟩) (by assumption) ?_
                rotate_left
                · intro w hSw
                  (try dsimp only at hSw)
                  go_simp
                  try (with_reducible rfl)
                try simp only [Act.put, List.setIfInBounds_toArray, List.set_cons_zero, List.set_cons_succ]
                refine wpAnyH_take (i := 2) (v := ?_) (by simp only [List.getElem?_toArray, List.getElem?_cons_zero, List.getElem?_cons_succ]; exact rfl) (by kernel_rfl) (by kernel_rfl) (by kernel_rfl) (by intro _ _ _ h; exact h) (Or.inl ⟨by rfl, ?_⟩) (by assumption) ?_
                rotate_left
                · intro w hSw
                  (try dsimp only at hSw)
                  go_simp
                  try (with_reducible rfl)
                try simp only [Act.put, List.setIfInBounds_toArray, List.set_cons_zero, List.set_cons_succ]
                refine wpAnyH_take (i := 3) (v := ?_) (by simp only [List.getElem?_toArray, List.getElem?_cons_zero, List.getElem?_cons_succ]; exact rfl) (by kernel_rfl) (by kernel_rfl) (by kernel_rfl) (by intro _ _ _ h; exact h) (Or.inl ⟨by rfl, ?_⟩) (by assumption) ?_
                rotate_left
                · intro w hSw
                  (try dsimp only at hSw)
                  go_simp
                  try (with_reducible rfl)
                try simp only [Act.put, List.setIfInBounds_toArray, List.set_cons_zero, List.set_cons_succ]
                refine wpAnyH_ready (rs := [1]) (by kernel_rfl) (by simp) ?_
                refine AllReadyH.cons (by simp only [List.getElem?_toArray, List.getElem?_cons_zero, List.getElem?_cons_succ]; exact rfl) (fun K hK => ?_) AllReadyH.nil
                go_simp
                (go_at_call 18; (with_reducible refine (hfr _ (And.right (by assumption))).mono ?_); rintro e w9 ⟨rfl, hc9⟩; have hS9 := K32 _ (Ch.trans (And.right (by assumption)) hc9); (try dsimp only))
                try go_wp2_with fail
                refine hK.out _ _ ?_ (fun hHeld => ?_)
                · try dsimp only
                  first | assumption | exact (by assumption) | fail
                clear hK K
                try simp only [Act.put, List.setIfInBounds_toArray, List.set_cons_zero, List.set_cons_succ]
                refine wpAnyH_ready (rs := [4]) (by kernel_rfl) (by simp) ?_
                refine AllReadyH.cons (by simp only [List.getElem?_toArray, List.getElem?_cons_zero, List.getElem?_cons_succ]; exact rfl) (fun K hK => ?_) AllReadyH.nil
                go_simp
                (go_at_call 27; (with_reducible refine (hcn _ (And.right (by assumption))).mono ?_); rintro e w9 ⟨rfl, rfl⟩; (try dsimp only))
                try go_wp2_with fail
                refine hK.out _ _ ?_ (fun hHeld => ?_)
                · try dsimp only
                  first | assumption | exact (by assumption) | fail
                clear hK K
                try simp only [Act.put, List.setIfInBounds_toArray, List.set_cons_zero, List.set_cons_succ]
                refine wpAnyH_take (i := 5) (v := ?_) (by simp only [List.getElem?_toArray, List.getElem?_cons_zero, List.getElem?_cons_succ]; exact rfl) (by kernel_rfl) (by kernel_rfl) (by kernel_rfl) (by intro _ _ _ h; exact h) (Or.inl ⟨by rfl, ?_⟩) (by assumption) ?_
                rotate_left
                · intro w hSw
                  (try dsimp only at hSw)
                  go_simp
                  try (with_reducible rfl)
                try simp only [Act.put, List.setIfInBounds_toArray, List.set_cons_zero, List.set_cons_succ]
                refine wpAnyH_take (i := 6) (v := ?_) (by simp only [List.getElem?_toArray, List.getElem?_cons_zero, List.getElem?_cons_succ]; exact rfl) (by kernel_rfl) (by kernel_rfl) (by kernel_rfl) (by intro _ _ _ h; exact h) (Or.inl ⟨by rfl, ?_⟩) (by assumption) ?_
                rotate_left
                · intro w hSw
                  (try dsimp only at hSw)
                  go_simp
                  try (with_reducible rfl)
                try simp only [Act.put, List.setIfInBounds_toArray, List.set_cons_zero, List.set_cons_succ]
                refine wpAnyH_take (i := 7) (v := ?_) (by simp only [List.getElem?_toArray, List.getElem?_cons_zero, List.getElem?_cons_succ]; exact rfl) (by kernel_rfl) (by kernel_rfl) (by kernel_rfl) (by intro _ _ _ h; exact h) (Or.inl ⟨by rfl, ?_⟩) (by assumption) ?_
                rotate_left
                · intro w hSw
                  (try dsimp only at hSw)
                  go_simp
                  try (with_reducible rfl)
                try simp only [Act.put, List.setIfInBounds_toArray, List.set_cons_zero, List.set_cons_succ]
                refine wpAnyH_take (i := 8) (v := ?_) (by simp only [List.getElem?_toArray, List.getElem?_cons_zero, List.getElem?_cons_succ]; exact rfl) (by kernel_rfl) (by kernel_rfl) (by kernel_rfl) (by intro _ _ _ h; exact h) (Or.inl ⟨by rfl, ?_⟩) (by assumption) ?_
                rotate_left
                · intro w hSw
                  (try dsimp only at hSw)
                  go_simp
                  try (with_reducible rfl)
                try simp only [Act.put, List.setIfInBounds_toArray, List.set_cons_zero, List.set_cons_succ]
                refine wpAnyH_take (i := 9) (v := ?_) (by simp only [List.getElem?_toArray, List.getElem?_cons_zero, List.getElem?_cons_succ]; exact rfl) (by kernel_rfl) (by kernel_rfl) (by kernel_rfl) (by intro _ _ _ h; exact h) (Or.inl ⟨by rfl, ?_⟩) (by assumption) ?_
                rotate_left
                · intro w hSw
                  (try dsimp only at hSw)
                  go_simp
                  try (with_reducible rfl)
                try simp only [Act.put, List.setIfInBounds_toArray, List.set_cons_zero, List.set_cons_succ]
                refine wpAnyH_take (i := 10) (v := ?_) (by simp only [List.getElem?_toArray, List.getElem?_cons_zero, List.getElem?_cons_succ]; exact rfl) (by kernel_rfl) (by kernel_rfl) (by kernel_rfl) (by intro _ _ _ h; exact h) (Or.inl ⟨by rfl, ?_⟩) (by assumption) ?_
                rotate_left
                · intro w hSw
                  (try dsimp only at hSw)
                  go_simp
                  try (with_reducible rfl)
                try simp only [Act.put, List.setIfInBounds_toArray, List.set_cons_zero, List.set_cons_succ]
                refine wpAnyH_take (i := 12) (v := ?_) (by simp only [List.getElem?_toArray, List.getElem?_cons_zero, List.getElem?_cons_succ]; exact rfl) (by kernel_rfl) (by kernel_rfl) (by kernel_rfl) (by intro _ _ _ h; exact h) (Or.inl ⟨by rfl, ?_⟩) (by assumption) ?_
                rotate_left
                · intro w hSw
                  (try dsimp only at hSw)
                  go_simp
                  try (with_reducible rfl)
                try simp only [Act.put, List.setIfInBounds_toArray, List.set_cons_zero, List.set_cons_succ]
                refine wpAnyH_take (i := 13) (v := ?_) (by simp only [List.getElem?_toArray, List.getElem?_cons_zero, List.getElem?_cons_succ]; exact rfl) (by kernel_rfl) (by kernel_rfl) (by kernel_rfl) (by intro _ _ _ h; exact h) (Or.inl ⟨by rfl, ?_⟩) (by assumption) ?_
                rotate_left
                · intro w hSw
                  (try dsimp only at hSw)
                  go_simp
                  try (with_reducible rfl)
                try simp only [Act.put, List.setIfInBounds_toArray, List.set_cons_zero, List.set_cons_succ]
                refine wpAnyH_take (i := 14) (v := ?_) (by simp only [List.getElem?_toArray, List.getElem?_cons_zero, List.getElem?_cons_succ]; exact rfl) (by kernel_rfl) (by kernel_rfl) (by kernel_rfl) (by intro _ _ _ h; exact h) (Or.inl ⟨by rfl, ?_⟩) (by assumption) ?_
                rotate_left
                · intro w hSw
                  (try dsimp only at hSw)
                  go_simp
                  try (with_reducible rfl)
                try simp only [Act.put, List.setIfInBounds_toArray, List.set_cons_zero, List.set_cons_succ]
                refine wpAnyH_take (i := 15) (v := ?_) (by simp only [List.getElem?_toArray, List.getElem?_cons_zero, List.getElem?_cons_succ]; exact rfl) (by kernel_rfl) (by kernel_rfl) (by kernel_rfl) (by intro _ _ _ h; exact h) (Or.inl ⟨by rfl, ?_⟩) (by assumption) ?_
                rotate_left
                · intro w hSw
                  (try dsimp only at hSw)
                  go_simp
                  try (with_reducible rfl)
                try simp only [Act.put, List.setIfInBounds_toArray, List.set_cons_zero, List.set_cons_succ]
                refine wpAnyH_ready (rs := [11]) (by kernel_rfl) (by simp) ?_
                refine AllReadyH.cons (by simp only [List.getElem?_toArray, List.getElem?_cons_zero, List.getElem?_cons_succ]; exact rfl) (fun K hK => ?_) AllReadyH.nil
                go_simp
                (go_at_call 17; (with_reducible refine (hrn _ (And.right (by assumption))).mono ?_); rintro e w9 ⟨qn, cn, rfl, hsn, hc9⟩; have hS9 := K32 _ (Ch.trans (And.right (by assumption)) hc9); (try dsimp only))
                try go_wp2_with fail
                refine hK.out _ _ ?_ (fun hHeld => ?_)
                · try dsimp only
                  first | assumption | exact (by assumption) | fail
                clear hK K
                try simp only [Act.put, List.setIfInBounds_toArray, List.set_cons_zero, List.set_cons_succ]
                refine wpAnyH_ready (rs := [16]) (by kernel_rfl) (by simp) ?_
                refine AllReadyH.cons (by simp only [List.getElem?_toArray, List.getElem?_cons_zero, List.getElem?_cons_succ]; exact rfl) (fun K hK => ?_) AllReadyH.nil
                go_simp
                (go_at_call 20; (with_reducible refine (hsm _ (And.right (by assumption)) qn cn hsn).mono ?_); rintro e w9 ⟨rfl, hc9⟩; have hS9 := K32 _ (Ch.trans (And.right (by assumption)) hc9); (try dsimp only))
                try go_wp2_with fail
                refine hK.out _ _ ?_ (fun hHeld => ?_)
                · try dsimp only
                  first | assumption | exact (by assumption) | fail
                clear hK K
                try simp only [Act.put, List.setIfInBounds_toArray, List.set_cons_zero, List.set_cons_succ]
                refine wpAnyH_take (i := 17) (v := ?_) (by simp only [List.getElem?_toArray, List.getElem?_cons_zero, List.getElem?_cons_succ]; exact rfl) (by kernel_rfl) (by kernel_rfl) (by kernel_rfl) (by intro _ _ _ h; exact h) (Or.inl ⟨by rfl, ?_⟩) (by assumption) ?_
                rotate_left
                · intro w hSw
                  (try dsimp only at hSw)
                  go_simp
                  try (with_reducible rfl)
                try simp only [Act.put, List.setIfInBounds_toArray, List.set_cons_zero, List.set_cons_succ]
                refine wpAnyH_take (i := 18) (v := ?_) (by simp only [List.getElem?_toArray, List.getElem?_cons_zero, List.getElem?_cons_succ]; exact rfl) (by kernel_rfl) (by kernel_rfl) (by kernel_rfl) (by intro _ _ _ h; exact h) (Or.inl ⟨by rfl, ?_⟩) (by assumption) ?_
                rotate_left
                · intro w hSw
                  (try dsimp only at hSw)
                  go_simp
                  try (with_reducible rfl)
                try simp only [Act.put, List.setIfInBounds_toArray, List.set_cons_zero, List.set_cons_succ]
                refine wpAnyH_take (i := 19) (v := ?_) (by simp only [List.getElem?_toArray, List.getElem?_cons_zero, List.getElem?_cons_succ]; exact rfl) (by kernel_rfl) (by kernel_rfl) (by kernel_rfl) (by intro _ _ _ h; exact h) (Or.inl ⟨by rfl, ?_⟩) (by assumption) ?_
                rotate_left
                · intro w hSw
                  (try dsimp only at hSw)
                  go_simp
                  try (with_reducible rfl)
                try simp only [Act.put, List.setIfInBounds_toArray, List.set_cons_zero, List.set_cons_succ]
                refine wpAnyH_take (i := 20) (v := ?_) (by simp only [List.getElem?_toArray, List.getElem?_cons_zero, List.getElem?_cons_succ]; exact rfl) (by kernel_rfl) (by kernel_rfl) (by kernel_rfl) (by intro _ _ _ h; exact h) (Or.inl ⟨by rfl, ?_⟩) (by assumption) ?_
                rotate_left
                · intro w hSw
                  (try dsimp only at hSw)
                  go_simp
                  try (with_reducible rfl)
                try simp only [Act.put, List.setIfInBounds_toArray, List.set_cons_zero, List.set_cons_succ]
                refine wpAnyH_take (i := 21) (v := ?_) (by simp only [List.getElem?_toArray, List.getElem?_cons_zero, List.getElem?_cons_succ]; exact rfl) (by kernel_rfl) (by kernel_rfl) (by kernel_rfl) (by intro _ _ _ h; exact h) (Or.inl ⟨by rfl, ?_⟩) (by assumption) ?_
                rotate_left
                · intro w hSw
                  (try dsimp only at hSw)
                  go_simp
                  try (with_reducible rfl)
                try simp only [Act.put, List.setIfInBounds_toArray, List.set_cons_zero, List.set_cons_succ]
                refine wpAnyH_take (i := 22) (v := ?_) (by simp only [List.getElem?_toArray, List.getElem?_cons_zero, List.getElem?_cons_succ]; exact rfl) (by kernel_rfl) (by kernel_rfl) (by kernel_rfl) (by intro _ _ _ h; exact h) (Or.inl ⟨by rfl, ?_⟩) (by assumption) ?_
                rotate_left
                · intro w hSw
                  (try dsimp only at hSw)
                  go_simp
                  try (with_reducible rfl)
                try simp only [Act.put, List.setIfInBounds_toArray, List.set_cons_zero, List.set_cons_succ]
                refine wpAnyH_take (i := 24) (v := ?_) (by simp only [List.getElem?_toArray, List.getElem?_cons_zero, List.getElem?_cons_succ]; exact rfl) (by kernel_rfl) (by kernel_rfl) (by kernel_rfl) (by intro _ _ _ h; exact h) (Or.inl ⟨by rfl, ?_⟩) (by assumption) ?_
                rotate_left
                · intro w hSw
                  (try dsimp only at hSw)
                  go_simp
                  try (with_reducible rfl)
                try simp only [Act.put, List.setIfInBounds_toArray, List.set_cons_zero, List.set_cons_succ]
                refine wpAnyH_take (i := 25) (v := ?_) (by simp only [List.getElem?_toArray, List.getElem?_cons_zero, List.getElem?_cons_succ]; exact rfl) (by kernel_rfl) (by kernel_rfl) (by kernel_rfl) (by intro _ _ _ h; exact h) (Or.inl ⟨by rfl, ?_⟩) (by assumption) ?_
                rotate_left
                · intro w hSw
                  (try dsimp only at hSw)
                  go_simp
                  try (with_reducible rfl)
                try simp only [Act.put, List.setIfInBounds_toArray, List.set_cons_zero, List.set_cons_succ]
                refine wpAnyH_take (i := 26) (v := ?_) (by simp only [List.getElem?_toArray, List.getElem?_cons_zero, List.getElem?_cons_succ]; exact rfl) (by kernel_rfl) (by kernel_rfl) (by kernel_rfl) (by intro _ _ _ h; exact h) (Or.inl ⟨by rfl, ?_⟩) (by assumption) ?_
                rotate_left
                · intro w hSw
                  (try dsimp only at hSw)
                  go_simp
                  try (with_reducible rfl)
                try simp only [Act.put, List.setIfInBounds_toArray, List.set_cons_zero, List.set_cons_succ]
                refine wpAnyH_take (i := 27) (v := ?_) (by simp only [List.getElem?_toArray, List.getElem?_cons_zero, List.getElem?_cons_succ]; exact rfl) (by kernel_rfl) (by kernel_rfl) (by kernel_rfl) (by intro _ _ _ h; exact h) (Or.inl ⟨by rfl, ?_⟩) (by assumption) ?_
                rotate_left
                · intro w hSw
                  (try dsimp only at hSw)
                  go_simp
                  try (with_reducible rfl)
                try simp only [Act.put, List.setIfInBounds_toArray, List.set_cons_zero, List.set_cons_succ]
                refine wpAnyH_ready (rs := [23]) (by kernel_rfl) (by simp) ?_
                refine AllReadyH.cons (by simp only [List.getElem?_toArray, List.getElem?_cons_zero, List.getElem?_cons_succ]; exact rfl) (fun K hK => ?_) AllReadyH.nil
                go_simp
                (go_at_call 16; (with_reducible refine (htn _ (And.right (by assumption))).mono ?_); rintro e w9 ⟨qm, cm, rfl, hsm2, hc9⟩; have hS9 := K32 _ (Ch.trans (And.right (by assumption)) hc9); (try dsimp only))
                try go_wp2_with fail
                refine hK.out _ _ ?_ (fun hHeld => ?_)
                · try dsimp only
                  first | assumption | exact (by assumption) | fail
                clear hK K
                try simp only [Act.put, List.setIfInBounds_toArray, List.set_cons_zero, List.set_cons_succ]
                refine wpAnyH_ready (rs := [28]) (by kernel_rfl) (by simp) ?_
                refine AllReadyH.cons (by simp only [List.getElem?_toArray, List.getElem?_cons_zero, List.getElem?_cons_succ]; exact rfl) (fun K hK => ?_) AllReadyH.nil
                go_simp
                (go_at_call 20; (with_reducible refine (hsm' _ (And.right (by assumption)) qm cm hsm2).mono ?_); rintro e w9 ⟨rfl, hc9⟩; have hS9 := K32 _ (Ch.trans (And.right (by assumption)) hc9); (try dsimp only))
                try go_wp2_with fail
                refine hK.out _ _ ?_ (fun hHeld => ?_)
                · try dsimp only
                  first | assumption | exact (by assumption) | fail
                clear hK K
                try simp only [Act.put, List.setIfInBounds_toArray, List.set_cons_zero, List.set_cons_succ]
                refine wpAnyH_take (i := 29) (v := ?_) (by simp only [List.getElem?_toArray, List.getElem?_cons_zero, List.getElem?_cons_succ]; exact rfl) (by kernel_rfl) (by kernel_rfl) (by kernel_rfl) (by intro _ _ _ h; exact h) (Or.inl ⟨by rfl, ?_⟩) (by assumption) ?_
                rotate_left
                · intro w hSw
                  (try dsimp only at hSw)
                  go_simp
                  try (with_reducible rfl)
                try simp only [Act.put, List.setIfInBounds_toArray, List.set_cons_zero, List.set_cons_succ]
                refine wpAnyH_take (i := 30) (v := ?_) (by simp only [List.getElem?_toArray, List.getElem?_cons_zero, List.getElem?_cons_succ]; exact rfl) (by kernel_rfl) (by kernel_rfl) (by kernel_rfl) (by intro _ _ _ h; exact h) (Or.inl ⟨by rfl, ?_⟩) (by assumption) ?_
                rotate_left
                · intro w hSw
                  (try dsimp only at hSw)
                  go_simp
                  try (with_reducible rfl)
                try simp only [Act.put, List.setIfInBounds_toArray, List.set_cons_zero, List.set_cons_succ]
                refine wpAnyH_take (i := 31) (v := ?_) (by simp only [List.getElem?_toArray, List.getElem?_cons_zero, List.getElem?_cons_succ]; exact rfl) (by kernel_rfl) (by kernel_rfl) (by kernel_rfl) (by intro _ _ _ h; exact h) (Or.inl ⟨by rfl, ?_⟩) (by assumption) ?_
                rotate_left
                · intro w hSw
                  (try dsimp only at hSw)
                  go_simp
                  try (with_reducible rfl)
                try simp only [Act.put, List.setIfInBounds_toArray, List.set_cons_zero, List.set_cons_succ]
                refine wpAnyH_take (i := 32) (v := ?_) (by simp only [List.getElem?_toArray, List.getElem?_cons_zero, List.getElem?_cons_succ]; exact rfl) (by kernel_rfl) (by kernel_rfl) (by kernel_rfl) (by intro _ _ _ h; exact h) (Or.inl ⟨by rfl, ?_⟩) (by assumption) ?_
                rotate_left
                · intro w hSw
                  (try dsimp only at hSw)
                  go_simp
                  try (with_reducible rfl)
                try simp only [Act.put, List.setIfInBounds_toArray, List.set_cons_zero, List.set_cons_succ]
                refine wpAnyH_take (i := 33) (v := ?_) (by simp only [List.getElem?_toArray, List.getElem?_cons_zero, List.getElem?_cons_succ]; exact rfl) (by kernel_rfl) (by kernel_rfl) (by kernel_rfl) (by intro _ _ _ h; exact h) (Or.inl ⟨by rfl, ?_⟩) (by assumption) ?_
                rotate_left
                · intro w hSw
                  (try dsimp only at hSw)
                  go_simp
                  try (with_reducible rfl)
                try simp only [Act.put, List.setIfInBounds_toArray, List.set_cons_zero, List.set_cons_succ]
                refine wpAnyH_take (i := 34) (v := ?_) (by simp only [List.getElem?_toArray, List.getElem?_cons_zero, List.getElem?_cons_succ]; exact rfl) (by kernel_rfl) (by kernel_rfl) (by kernel_rfl) (by intro _ _ _ h; exact h) (Or.inl ⟨by rfl, ?_⟩) (by assumption) ?_
                rotate_left
                · intro w hSw
                  (try dsimp only at hSw)
                  go_simp
                  try (with_reducible rfl)
                try simp only [Act.put, List.setIfInBounds_toArray, List.set_cons_zero, List.set_cons_succ]
                refine wpAnyH_take (i := 36) (v := ?_) (by simp only [List.getElem?_toArray, List.getElem?_cons_zero, List.getElem?_cons_succ]; exact rfl) (by kernel_rfl) (by kernel_rfl) (by kernel_rfl) (by intro _ _ _ h; exact h) (Or.inl ⟨by rfl, ?_⟩) (by assumption) ?_
                rotate_left
                · intro w hSw
                  (try dsimp only at hSw)
                  go_simp
                  try (with_reducible rfl)
                try simp only [Act.put, List.setIfInBounds_toArray, List.set_cons_zero, List.set_cons_succ]
                refine wpAnyH_take (i := 37) (v := ?_) (by simp only [List.getElem?_toArray, List.getElem?_cons_zero, List.getElem?_cons_succ]; exact rfl) (by kernel_rfl) (by kernel_rfl) (by kernel_rfl) (by intro _ _ _ h; exact h) (Or.inl ⟨by rfl, ?_⟩) (by assumption) ?_
                rotate_left
                · intro w hSw
                  (try dsimp only at hSw)
                  go_simp
                  try (with_reducible rfl)
                try simp only [Act.put, List.setIfInBounds_toArray, List.set_cons_zero, List.set_cons_succ]
                refine wpAnyH_take (i := 38) (v := ?_) (by simp only [List.getElem?_toArray, List.getElem?_cons_zero, List.getElem?_cons_succ]; exact rfl) (by kernel_rfl) (by kernel_rfl) (by kernel_rfl) (by intro _ _ _ h; exact h) (Or.inl ⟨by rfl, ?_⟩) (by assumption) ?_
                rotate_left
                · intro w hSw
                  (try dsimp only at hSw)
                  go_simp
                  try (with_reducible rfl)
                try simp only [Act.put, List.setIfInBounds_toArray, List.set_cons_zero, List.set_cons_succ]
                refine wpAnyH_ready (rs := [35]) (by kernel_rfl) (by simp) ?_
                refine AllReadyH.cons (by simp only [List.getElem?_toArray, List.getElem?_cons_zero, List.getElem?_cons_succ]; exact rfl) (fun K hK => ?_) AllReadyH.nil
                go_simp
                (go_at_call 12; (with_reducible refine (hpg _ (And.right (by assumption))).mono ?_); rintro e w9 ⟨rfl, hc9⟩; have hS9 := K32 _ (Ch.trans (And.right (by assumption)) hc9); (try dsimp only))
                try go_wp2_with fail
                refine hK.out _ _ ?_ (fun hHeld => ?_)
                · try dsimp only
                  first | assumption | exact (by assumption) | fail
                clear hK K
                try simp only [Act.put, List.setIfInBounds_toArray, List.set_cons_zero, List.set_cons_succ]
                refine wpAnyH_ready (rs := [39]) (by kernel_rfl) (by simp) ?_
                refine AllReadyH.cons (by simp only [List.getElem?_toArray, List.getElem?_cons_zero, List.getElem?_cons_succ]; exact rfl) (fun K hK => ?_) AllReadyH.nil
                go_simp
                (go_at_call 28; (with_reducible refine (hrp _ (And.right (by assumption))).mono ?_); rintro e w9 ⟨rfl, hc9⟩; have hS9 := K32 _ (Ch.trans (And.right (by assumption)) hc9); (try dsimp only))
                try go_wp2_with fail
                refine hK.out _ _ ?_ (fun hHeld => ?_)
                · try dsimp only
                  first | assumption | exact (by assumption) | fail
                clear hK K
                try simp only [Act.put, List.setIfInBounds_toArray, List.set_cons_zero, List.set_cons_succ]
                refine wpAnyH_take (i := 40) (v := ?_) (by simp only [List.getElem?_toArray, List.getElem?_cons_zero, List.getElem?_cons_succ]; exact rfl) (by kernel_rfl) (by kernel_rfl) (by kernel_rfl) (by intro _ _ _ h; exact h) (Or.inl ⟨by rfl, ?_⟩) (by assumption) ?_
                rotate_left
                · intro w hSw
                  (try dsimp only at hSw)
                  go_simp
                  try (with_reducible rfl)
                try simp only [Act.put, List.setIfInBounds_toArray, List.set_cons_zero, List.set_cons_succ]
                refine wpAnyH_take (i := 41) (v := ?_) (by simp only [List.getElem?_toArray, List.getElem?_cons_zero, List.getElem?_cons_succ]; exact rfl) (by kernel_rfl) (by kernel_rfl) (by kernel_rfl) (by intro _ _ _ h; exact h) (Or.inl ⟨by rfl, ?_⟩) (by assumption) ?_
                rotate_left
                · intro w hSw
                  (try dsimp only at hSw)
                  go_simp
                  try (with_reducible rfl)
                try simp only [Act.put, List.setIfInBounds_toArray, List.set_cons_zero, List.set_cons_succ]
                refine wpAnyH_done (by kernel_rfl) ?_ _
                have hcF : Ch No w3 _ := hd3.trans hS9.2
                have hsF := hcF.size
                try go_wp2_with fail
                go_roundw
                case rel => exact ⟨i + 1, f3, r3, x3, W3, q3, c3, by omega, by go_num, rfl, hM3.ch0 hcF, hP3.ch hcF (fun q => q), hk3.ch0 hcF, HI3.out, HX3.out, HRT.out, hG3.then0 hcF, hn3.ch hcF (fun q => q), by omega, hX3.ch hcF (fun q => q), hrw3.ch0 hcF, hq3.ch0 hcF⟩
                case measure => exact meas_lt (by omega)
              · refine AllReadyH.cons (by simp only [List.getElem?_toArray, List.getElem?_cons_zero, List.getElem?_cons_succ]; exact rfl) (fun K hK => ?_) AllReadyH.nil
                go_simp
                have hSA := K26 ((wa.alloc (.cells #[.int .i64 0, .int .i64 0, .slice none 0 0, .slice none 0 0] 64)).drew) (show Ch No wa.drew (wa.drew.alloc (.cells #[.int .i64 0, .int .i64 0, .slice none 0 0, .slice none 0 0] 64)) from (Ch.refl No wa.drew).alloc _)
                obtain ⟨wz, hwz⟩ : ∃ z, z = (wa.alloc (.cells #[.int .i64 0, .int .i64 0, .slice none 0 0, .slice none 0 0] 64)).drew := ⟨_, rfl⟩
                obtain ⟨z, hz⟩ : ∃ z, z = wa.heap.size := ⟨_, rfl⟩
                have hzz : wz.heap[z]? = some (.cells #[.int .i64 0, .int .i64 0, .slice none 0 0, .slice none 0 0] 64 (0, 0)) := by rw [hwz, hz]; exact World.alloc_heap_new wa _
                have hwzs : wa.heap.size < wz.heap.size := by rw [hwz]; show wa.heap.size < (wa.alloc _).heap.size; rw [World.size_alloc]; omega
                rw [← hwz] at hSA
                refine hK.out _ _ ?_ (fun hHeld => ?_)
                · try dsimp only
                  rw [← hwz]
                  exact hSA
                clear hK K
                try simp only [Act.put, List.setIfInBounds_toArray, List.set_cons_zero, List.set_cons_succ]
                simp only [← hwz] at hHeld ⊢
                simp only [← hz] at ⊢
                have HWZ := Lib.hid hwz; have HZ := Lib.hid hz
                clear hwz hz
                refine wpAnyH_ready (rs := [6]) (by kernel_rfl) (by simp) ?_
                refine AllReadyH.cons (by simp only [List.getElem?_toArray, List.getElem?_cons_zero, List.getElem?_cons_succ]; exact rfl) (fun K hK => ?_) AllReadyH.nil
                go_simp
                go_at_call 26
                (with_reducible refine (hra _ (And.right (by assumption))).mono ?_)
                rintro e w9 ⟨q1, c1, x1, pg1, us1, qr1, cr1, R1, qt1, ct1, T1, a1, E1, rfl, hx9, hR9, hT9, hc9, hto⟩
                have hS9 := K26 _ (Ch.trans (And.right (by assumption)) hc9)
                have hz9 := hc9.heap hzz (fun q => q)
                (try dsimp only)
                try go_wp2_with fail
                refine hK.out _ _ ?_ (fun hHeld => ?_)
                · try dsimp only
                  first | assumption | exact (by assumption) | fail
                clear hK K
                try simp only [Act.put, List.setIfInBounds_toArray, List.set_cons_zero, List.set_cons_succ]
                refine wpAnyH_take (i := 7) (v := ?_) (by simp only [List.getElem?_toArray, List.getElem?_cons_zero, List.getElem?_cons_succ]; exact rfl) (by kernel_rfl) (by kernel_rfl) (by kernel_rfl) (by intro _ _ _ h; exact h) (Or.inl ⟨by rfl, ?_⟩) (by assumption) ?_
                rotate_left
                · intro w hSw
                  (try dsimp only at hSw)
                  go_simp
                  try (with_reducible rfl)
                try simp only [Act.put, List.setIfInBounds_toArray, List.set_cons_zero, List.set_cons_succ]
                refine wpAnyH_take (i := 8) (v := ?_) (by simp only [List.getElem?_toArray, List.getElem?_cons_zero, List.getElem?_cons_succ]; exact rfl) (by kernel_rfl) (by kernel_rfl) (by kernel_rfl) (by intro _ _ _ h; exact h) (Or.inl ⟨by rfl, ?_⟩) (by assumption) ?_
                rotate_left
                · intro w hSw
                  (try dsimp only at hSw)
                  go_simp
                  try (with_reducible rfl)
                try simp only [Act.put, List.setIfInBounds_toArray, List.set_cons_zero, List.set_cons_succ]
                refine wpAnyH_take (i := 9) (v := ?_) (by simp only [List.getElem?_toArray, List.getElem?_cons_zero, List.getElem?_cons_succ]; exact rfl) (by kernel_rfl) (by kernel_rfl) (by kernel_rfl) (by intro _ _ _ h; exact h) (Or.inl ⟨by rfl, ?_⟩) (by assumption) ?_
                rotate_left
                · intro w hSw
                  (try dsimp only at hSw)
                  go_simp
                  try (with_reducible rfl)
                try simp only [Act.put, List.setIfInBounds_toArray, List.set_cons_zero, List.set_cons_succ]
                refine wpAnyH_take (i := 10) (v := ?_) (by simp only [List.getElem?_toArray, List.getElem?_cons_zero, List.getElem?_cons_succ]; exact rfl) (by kernel_rfl) (by kernel_rfl) (by kernel_rfl) (by intro _ _ _ h; exact h) (Or.inl ⟨by rfl, ?_⟩) (by assumption) ?_
                rotate_left
                · intro w hSw
                  (try dsimp only at hSw)
                  go_simp
                  try (with_reducible rfl)
                try simp only [Act.put, List.setIfInBounds_toArray, List.set_cons_zero, List.set_cons_succ]
                refine wpAnyH_take (i := 11) (v := ?_) (by simp only [List.getElem?_toArray, List.getElem?_cons_zero, List.getElem?_cons_succ]; exact rfl) (by kernel_rfl) (by kernel_rfl) (by kernel_rfl) (by intro _ _ _ h; exact h) (Or.inl ⟨by rfl, ?_⟩) (by assumption) ?_
                rotate_left
                · intro w hSw
                  (try dsimp only at hSw)
                  go_simp
                  try (with_reducible rfl)
                try simp only [Act.put, List.setIfInBounds_toArray, List.set_cons_zero, List.set_cons_succ]
                have zc0 := cellOf hz9 0 rfl
                have zf0 := freeOf hz9 0
                have zc1 := cellOf hz9 1 rfl
                have zf1 := freeOf hz9 1
                have zc2 := cellOf hz9 2 rfl
                have zf2 := freeOf hz9 2
                have zc3 := cellOf hz9 3 rfl
                have zf3 := freeOf hz9 3
                have hZS : Ch (One z) w9 ((((w9.setCell ⟨z, 0, none⟩ (.int .i64 (refPg pg1))).setCell ⟨z, 1, none⟩ (.int .i64 (16 - us1))).setCell ⟨z, 2, none⟩ (.slice qr1 R1.length cr1)).setCell ⟨z, 3, none⟩ (.slice qt1 T1.length ct1)) := Ch.setIn (F := One z) (Ch.setIn (F := One z) (Ch.setIn (F := One z) (Ch.setIn (F := One z) (Ch.refl _ w9) (p := ⟨z, 0, none⟩) rfl _) (p := ⟨z, 1, none⟩) rfl _) (p := ⟨z, 2, none⟩) rfl _) (p := ⟨z, 3, none⟩) rfl _
                have hzX : z ≠ X ∧ z ≠ wr.heap.size := by have h1 := HZ.out; have h2 := HSA.out; omega
                have hSB : Ch No wa.drew ((((w9.setCell ⟨z, 0, none⟩ (.int .i64 (refPg pg1))).setCell ⟨z, 1, none⟩ (.int .i64 (16 - us1))).setCell ⟨z, 2, none⟩ (.slice qr1 R1.length cr1)).setCell ⟨z, 3, none⟩ (.slice qt1 T1.length ct1)) := (show Ch No wa.drew w9 from hS9.2).andThen hZS (fun q hq => .inr (by have : q = z := hq; rw [this]; exact Nat.le_of_eq HZ.out.symm))
                refine wpAnyH_ready (rs := [13]) (by kernel_rfl) (by simp) ?_
                refine AllReadyH.cons (by simp only [List.getElem?_toArray, List.getElem?_cons_zero, List.getElem?_cons_succ]; exact rfl) (fun K hK => ?_) AllReadyH.nil
                go_simp
                try go_wp2_with fail
                refine hK.out _ _ ?_ (fun hHeld => ?_)
                · try dsimp only
                  first | assumption | exact (K26 _ hSB) | fail
                clear hK K
                try simp only [Act.put, List.setIfInBounds_toArray, List.set_cons_zero, List.set_cons_succ]
                refine wpAnyH_take (i := 14) (v := ?_) (by simp only [List.getElem?_toArray, List.getElem?_cons_zero, List.getElem?_cons_succ]; exact rfl) (by kernel_rfl) (by kernel_rfl) (by kernel_rfl) (by intro _ _ _ h; exact h) (Or.inl ⟨by rfl, ?_⟩) (by assumption) ?_
                rotate_left
                · intro w hSw
                  (try dsimp only at hSw)
                  go_simp
                  try (with_reducible rfl)
                try simp only [Act.put, List.setIfInBounds_toArray, List.set_cons_zero, List.set_cons_succ]
                refine wpAnyH_take (i := 15) (v := ?_) (by simp only [List.getElem?_toArray, List.getElem?_cons_zero, List.getElem?_cons_succ]; exact rfl) (by kernel_rfl) (by kernel_rfl) (by kernel_rfl) (by intro _ _ _ h; exact h) (Or.inl ⟨by rfl, ?_⟩) (by assumption) ?_
                rotate_left
                · intro w hSw
                  (try dsimp only at hSw)
                  go_simp
                  try (with_reducible rfl)
                try simp only [Act.put, List.setIfInBounds_toArray, List.set_cons_zero, List.set_cons_succ]
                refine wpAnyH_take (i := 16) (v := ?_) (by simp only [List.getElem?_toArray, List.getElem?_cons_zero, List.getElem?_cons_succ]; exact rfl) (by kernel_rfl) (by kernel_rfl) (by kernel_rfl) (by intro _ _ _ h; exact h) (Or.inl ⟨by rfl, ?_⟩) (by assumption) ?_
                rotate_left
                · intro w hSw
                  (try dsimp only at hSw)
                  go_simp
                  try (with_reducible rfl)
                try simp only [Act.put, List.setIfInBounds_toArray, List.set_cons_zero, List.set_cons_succ]
                refine wpAnyH_done (by kernel_rfl) ?_ _
                obtain ⟨w1r, hw1r⟩ : ∃ z', z' = ((((w9.setCell ⟨z, 0, none⟩ (.int .i64 (refPg pg1))).setCell ⟨z, 1, none⟩ (.int .i64 (16 - us1))).setCell ⟨z, 2, none⟩ (.slice qr1 R1.length cr1)).setCell ⟨z, 3, none⟩ (.slice qt1 T1.length ct1)) := ⟨_, rfl⟩
                rw [← hw1r] at hSB hZS ⊢
                have hzc : w1r.heap[z]? = some (.cells #[.int .i64 (refPg pg1), .int .i64 (16 - us1), .slice qr1 R1.length cr1, .slice qt1 T1.length ct1] 64 (0, 0)) := by rw [hw1r]; exact four_set hz9
                have hcr : Ch No wa.drew w1r := hSB
                have hzb : z < w1r.heap.size ∧ wa.drew.heap.size ≤ z := ⟨heap_lt hzc, Nat.le_of_eq HZ.out.symm⟩
                have hx1r := (hx9.ch hZS (fun q hq => .inr ⟨(show q = z from hq).trans HZ.out, hwzs⟩)).more (fun q hq => .inl (.inl hq))
                have hR1r := (hR9.ch hZS (fun q hq => .inr ⟨(show q = z from hq).trans HZ.out, hwzs⟩)).more (fun q hq => .inl (.inl hq))
                have hT1r := (hT9.ch hZS (fun q hq => .inr ⟨(show q = z from hq).trans HZ.out, hwzs⟩)).more (fun q hq => .inl (.inl hq))
                clear hw1r hSB hZS hzz hz9
                have hsa := HSA.out
                have hd1 : Ch No wa.drew w1r.drew := hcr.drew
                have hst1 : w1r.drew.cell? ⟨B, k, none⟩ = some (.pointer (some ⟨(f k).b, 0, none⟩)) ∧ w1r.drew.cell? ⟨wr.heap.size, 1, none⟩ = some (.int .i64 sz) := ⟨(hPd.ch hd1 (fun q => q)).cell hk4, hd1.cell (cellOf hdd 1 rfl) (fun q => q)⟩
                have hft := fun (W' : World) (hc : Ch No w1r.drew W') => arena_Fits W' base (f k).b (f k).p s p0 g m h' _ _ _ _ _ _ x W sz (((hMd.ar k hk4).ch0 hd1).ch0 hc) ((hkd.ch0 hd1).ch0 hc) ((hnd.ch hd1 (fun q => q)).ch hc (fun q => q)) i1
                have K27 : ∀ W', Ch No w1r.drew W' → (fun w' : World => (w'.cell? ⟨B, k, none⟩ = some (.pointer (some ⟨(f k).b, 0, none⟩)) ∧ w'.cell? ⟨wr.heap.size, 1, none⟩ = some (.int .i64 sz)) ∧ Ch No w1r.drew w') W' := fun W' hc => ⟨⟨hc.cell hst1.1 (fun q => q), hc.cell hst1.2 (fun q => q)⟩, hc⟩
                have hz1d := (show Ch No w1r w1r.drew from (Ch.refl _ _).drew).heap hzc (fun q => q)
                have hx1d := hx1r.ch0 (show Ch No w1r w1r.drew from (Ch.refl _ _).drew)
                have hR1d := hR1r.ch0 (show Ch No w1r w1r.drew from (Ch.refl _ _).drew)
                have hT1d := hT1r.ch0 (show Ch No w1r w1r.drew from (Ch.refl _ _).drew)
                have hzb1 : z < w1r.drew.heap.size ∧ wa.drew.heap.size ≤ z := ⟨heap_lt hz1d, hzb.2⟩
                have HTO := Lib.hid hto
                clear hto hzb hx1r hR1r hT1r hcr
                try go_wp2_with fail
                refine wp_region_held_drew (S := (fun w' : World => (w'.cell? ⟨B, k, none⟩ = some (.pointer (some ⟨(f k).b, 0, none⟩)) ∧ w'.cell? ⟨wr.heap.size, 1, none⟩ = some (.int .i64 sz)) ∧ Ch No w1r.drew w')) (by kernel_rfl) (K27 _ (Ch.refl _ _)) (fun hHeld => ?_)
                refine wpAnyH_take (i := 0) (v := ?_) (by simp only [List.getElem?_toArray, List.getElem?_cons_zero, List.getElem?_cons_succ]; exact rfl) (by kernel_rfl) (by kernel_rfl) (by kernel_rfl) (by intro _ _ _ h; exact h) (Or.inl ⟨by rfl, ?_⟩) (by assumption) ?_
                rotate_left
                · intro w hSw
                  (try dsimp only at hSw)
                  go_simp
                  try (with_reducible rfl)
                try simp only [Act.put, List.setIfInBounds_toArray, List.set_cons_zero, List.set_cons_succ]
                refine wpAnyH_take (i := 1) (v := ?_) (by simp only [List.getElem?_toArray, List.getElem?_cons_zero, List.getElem?_cons_succ]; exact rfl) (by kernel_rfl) (by kernel_rfl) (by kernel_rfl) (by intro _ _ _ h; exact h) (Or.inl ⟨by rfl, ?_⟩) (by assumption) ?_
                rotate_left
                · intro w hSw
                  (try dsimp only at hSw)
                  go_simp
                  try (with_reducible rfl)
                try simp only [Act.put, List.setIfInBounds_toArray, List.set_cons_zero, List.set_cons_succ]
                refine wpAnyH_take (i := 2) (v := ?_) (by simp only [List.getElem?_toArray, List.getElem?_cons_zero, List.getElem?_cons_succ]; exact rfl) (by kernel_rfl) (by kernel_rfl) (by kernel_rfl) (by intro _ _ _ h; exact h) (Or.inl ⟨by rfl, ?_⟩) (by assumption) ?_
                rotate_left
                · intro w hSw
                  (try dsimp only at hSw)
                  go_simp
                  try (with_reducible rfl)
                try simp only [Act.put, List.setIfInBounds_toArray, List.set_cons_zero, List.set_cons_succ]
                refine wpAnyH_take (i := 3) (v := ?_) (by simp only [List.getElem?_toArray, List.getElem?_cons_zero, List.getElem?_cons_succ]; exact rfl) (by kernel_rfl) (by kernel_rfl) (by kernel_rfl) (by intro _ _ _ h; exact h) (Or.inl ⟨by rfl, ?_⟩) (by assumption) ?_
                rotate_left
                · intro w hSw
                  (try dsimp only at hSw)
                  go_simp
                  try (with_reducible rfl)
                try simp only [Act.put, List.setIfInBounds_toArray, List.set_cons_zero, List.set_cons_succ]
                refine wpAnyH_take (i := 4) (v := ?_) (by simp only [List.getElem?_toArray, List.getElem?_cons_zero, List.getElem?_cons_succ]; exact rfl) (by kernel_rfl) (by kernel_rfl) (by kernel_rfl) (by intro _ _ _ h; exact h) (Or.inl ⟨by rfl, ?_⟩) (by assumption) ?_
                rotate_left
                · intro w hSw
                  (try dsimp only at hSw)
                  go_simp
                  try (with_reducible rfl)
                try simp only [Act.put, List.setIfInBounds_toArray, List.set_cons_zero, List.set_cons_succ]
                refine wpAnyH_ready (rs := [5]) (by kernel_rfl) (by simp) ?_
                refine AllReadyH.cons (by simp only [List.getElem?_toArray, List.getElem?_cons_zero, List.getElem?_cons_succ]; exact rfl) (fun K hK => ?_) AllReadyH.nil
                go_simp
                (go_at_call 10; (with_reducible refine (hft _ (And.right (by assumption))).mono ?_); rintro e w9 ⟨rv, rfl, hc9, hrv⟩; have hS9 := K27 _ (Ch.trans (And.right (by assumption)) hc9); (try dsimp only))
                try go_wp2_with fail
                refine hK.out _ _ ?_ (fun hHeld => ?_)
                · try dsimp only
                  first | assumption | exact (by assumption) | fail
                clear hK K
                try simp only [Act.put, List.setIfInBounds_toArray, List.set_cons_zero, List.set_cons_succ]
                refine wpAnyH_take (i := 6) (v := ?_) (by simp only [List.getElem?_toArray, List.getElem?_cons_zero, List.getElem?_cons_succ]; exact rfl) (by kernel_rfl) (by kernel_rfl) (by kernel_rfl) (by intro _ _ _ h; exact h) (Or.inl ⟨by rfl, ?_⟩) (by assumption) ?_
                rotate_left
                · intro w hSw
                  (try dsimp only at hSw)
                  go_simp
                  try (with_reducible rfl)
                try simp only [Act.put, List.setIfInBounds_toArray, List.set_cons_zero, List.set_cons_succ]
                refine wpAnyH_done (by kernel_rfl) ?_ _
                have hc2 : Ch No wa.drew w9 := hd1.trans hS9.2
                obtain ⟨w2, hw2⟩ : ∃ z, z = w9 := ⟨_, rfl⟩
                rw [← hw2] at hc2 hc9 hS9 ⊢
                clear hw2
                have hd2 : Ch No wa.drew w2.drew := hc2.drew
                have hd12 : Ch No w1r.drew w2.drew := hc9.drew
                have hz2d := hd12.heap hz1d (fun q => q)
                have hx2d := hx1d.ch0 hd12
                have hR2d := hR1d.ch0 hd12
                have hT2d := hT1d.ch0 hd12
                have hst : w2.drew.cell? ⟨B, k, none⟩ = some (.pointer (some ⟨(f k).b, 0, none⟩)) ∧ w2.drew.cell? ⟨wr.heap.size, 1, none⟩ = some (.int .i64 sz) := ⟨(hPd.ch hd2 (fun q => q)).cell hk4, hd2.cell (cellOf hdd 1 rfl) (fun q => q)⟩
                have hsd2 := hd2.size
                have hallc := arena_Alloc w2.drew base (f k).b (f k).p s p0 g m h' _ _ _ _ _ _ x W sz ((hMd.ar k hk4).ch0 hd2) (hkd.ch0 hd2) (hnd.ch hd2 (fun q => q)) i1 (fun q hq => by have := hfk q hq; omega) (by omega) (by have := (hRT k hk4).1; omega) (by have := (hRT k hk4).2; omega)
                have hrv2 := hrv 0 _ _ _ HTO.out
                have HRV := Lib.hid hrv2
                clear hrv hrv2 hft
                try go_wp2_with fail
                refine wp_region_held_drew (S := (fun w' : World => w'.cell? ⟨B, k, none⟩ = some (.pointer (some ⟨(f k).b, 0, none⟩)) ∧ w'.cell? ⟨wr.heap.size, 1, none⟩ = some (.int .i64 sz))) (by kernel_rfl) hst (fun hHeld => ?_)
                refine wpAnyH_take (i := 0) (v := ?_) (by simp only [List.getElem?_toArray, List.getElem?_cons_zero, List.getElem?_cons_succ]; exact rfl) (by kernel_rfl) (by kernel_rfl) (by kernel_rfl) (by intro _ _ _ h; exact h) (Or.inl ⟨by rfl, ?_⟩) (by assumption) ?_
                rotate_left
                · intro w hSw
                  (try dsimp only at hSw)
                  go_simp
                  try (with_reducible rfl)
                try simp only [Act.put, List.setIfInBounds_toArray, List.set_cons_zero, List.set_cons_succ]
                refine wpAnyH_take (i := 1) (v := ?_) (by simp only [List.getElem?_toArray, List.getElem?_cons_zero, List.getElem?_cons_succ]; exact rfl) (by kernel_rfl) (by kernel_rfl) (by kernel_rfl) (by intro _ _ _ h; exact h) (Or.inl ⟨by rfl, ?_⟩) (by assumption) ?_
                rotate_left
                · intro w hSw
                  (try dsimp only at hSw)
                  go_simp
                  try (with_reducible rfl)
                try simp only [Act.put, List.setIfInBounds_toArray, List.set_cons_zero, List.set_cons_succ]
                refine wpAnyH_take (i := 2) (v := ?_) (by simp only [List.getElem?_toArray, List.getElem?_cons_zero, List.getElem?_cons_succ]; exact rfl) (by kernel_rfl) (by kernel_rfl) (by kernel_rfl) (by intro _ _ _ h; exact h) (Or.inl ⟨by rfl, ?_⟩) (by assumption) ?_
                rotate_left
                · intro w hSw
                  (try dsimp only at hSw)
                  go_simp
                  try (with_reducible rfl)
                try simp only [Act.put, List.setIfInBounds_toArray, List.set_cons_zero, List.set_cons_succ]
                refine wpAnyH_take (i := 3) (v := ?_) (by simp only [List.getElem?_toArray, List.getElem?_cons_zero, List.getElem?_cons_succ]; exact rfl) (by kernel_rfl) (by kernel_rfl) (by kernel_rfl) (by intro _ _ _ h; exact h) (Or.inl ⟨by rfl, ?_⟩) (by assumption) ?_
                rotate_left
                · intro w hSw
                  (try dsimp only at hSw)
                  go_simp
                  try (with_reducible rfl)
                try simp only [Act.put, List.setIfInBounds_toArray, List.set_cons_zero, List.set_cons_succ]
                refine wpAnyH_take (i := 4) (v := ?_) (by simp only [List.getElem?_toArray, List.getElem?_cons_zero, List.getElem?_cons_succ]; exact rfl) (by kernel_rfl) (by kernel_rfl) (by kernel_rfl) (by intro _ _ _ h; exact h) (Or.inl ⟨by rfl, ?_⟩) (by assumption) ?_
                rotate_left
                · intro w hSw
                  (try dsimp only at hSw)
                  go_simp
                  try (with_reducible rfl)
                try simp only [Act.put, List.setIfInBounds_toArray, List.set_cons_zero, List.set_cons_succ]
                refine wpAnyH_ready (rs := [5]) (by kernel_rfl) (by simp) ?_
                refine AllReadyH.cons (by simp only [List.getElem?_toArray, List.getElem?_cons_zero, List.getElem?_cons_succ]; exact rfl) (fun K hK => ?_) AllReadyH.nil
                go_simp
                (go_at_call 8; (with_reducible refine hallc.mono ?_); rintro e w9 ⟨at_, E, x2, W2, pg2, us2, rv2, tv2, R2, T2, rfl, ha9, hk9, hc9, hf9, hto2⟩; have hS9 : w9.cell? ⟨B, k, none⟩ = some (.pointer (some ⟨(f k).b, 0, none⟩)) ∧ w9.cell? ⟨wr.heap.size, 1, none⟩ = some (.int .i64 sz) := ⟨hc9.cell hst.1 hFB, hc9.cell hst.2 hFb⟩; (try dsimp only))
                try go_wp2_with fail
                refine hK.out _ _ ?_ (fun hHeld => ?_)
                · try dsimp only
                  first | assumption | exact (by assumption) | fail
                clear hK K
                try simp only [Act.put, List.setIfInBounds_toArray, List.set_cons_zero, List.set_cons_succ]
                refine wpAnyH_take (i := 6) (v := ?_) (by simp only [List.getElem?_toArray, List.getElem?_cons_zero, List.getElem?_cons_succ]; exact rfl) (by kernel_rfl) (by kernel_rfl) (by kernel_rfl) (by intro _ _ _ h; exact h) (Or.inl ⟨by rfl, ?_⟩) (by assumption) ?_
                rotate_left
                · intro w hSw
                  (try dsimp only at hSw)
                  go_simp
                  try (with_reducible rfl)
                try simp only [Act.put, List.setIfInBounds_toArray, List.set_cons_zero, List.set_cons_succ]
                refine wpAnyH_take (i := 7) (v := ?_) (by simp only [List.getElem?_toArray, List.getElem?_cons_zero, List.getElem?_cons_succ]; exact rfl) (by kernel_rfl) (by kernel_rfl) (by kernel_rfl) (by intro _ _ _ h; exact h) (Or.inl ⟨by rfl, ?_⟩) (by assumption) ?_
                rotate_left
                · intro w hSw
                  (try dsimp only at hSw)
                  go_simp
                  try (with_reducible rfl)
                try simp only [Act.put, List.setIfInBounds_toArray, List.set_cons_zero, List.set_cons_succ]
                refine wpAnyH_take (i := 8) (v := ?_) (by simp only [List.getElem?_toArray, List.getElem?_cons_zero, List.getElem?_cons_succ]; exact rfl) (by kernel_rfl) (by kernel_rfl) (by kernel_rfl) (by intro _ _ _ h; exact h) (Or.inl ⟨by rfl, ?_⟩) (by assumption) ?_
                rotate_left
                · intro w hSw
                  (try dsimp only at hSw)
                  go_simp
                  try (with_reducible rfl)
                try simp only [Act.put, List.setIfInBounds_toArray, List.set_cons_zero, List.set_cons_succ]
                refine wpAnyH_take (i := 9) (v := ?_) (by simp only [List.getElem?_toArray, List.getElem?_cons_zero, List.getElem?_cons_succ]; exact rfl) (by kernel_rfl) (by kernel_rfl) (by kernel_rfl) (by intro _ _ _ h; exact h) (Or.inl ⟨by rfl, ?_⟩) (by assumption) ?_
                rotate_left
                · intro w hSw
                  (try dsimp only at hSw)
                  go_simp
                  try (with_reducible rfl)
                try simp only [Act.put, List.setIfInBounds_toArray, List.set_cons_zero, List.set_cons_succ]
                refine wpAnyH_take (i := 10) (v := ?_) (by simp only [List.getElem?_toArray, List.getElem?_cons_zero, List.getElem?_cons_succ]; exact rfl) (by kernel_rfl) (by kernel_rfl) (by kernel_rfl) (by intro _ _ _ h; exact h) (Or.inl ⟨by rfl, ?_⟩) (by assumption) ?_
                rotate_left
                · intro w hSw
                  (try dsimp only at hSw)
                  go_simp
                  try (with_reducible rfl)
                try simp only [Act.put, List.setIfInBounds_toArray, List.set_cons_zero, List.set_cons_succ]
                refine wpAnyH_done (by kernel_rfl) ?_ _
                have hux := AllocX.uniq (s := ⟨x, (f k).pg, (f k).us, (f k).R, (f k).T⟩) HTO.out (s2 := ⟨x2, pg2, us2, R2, T2⟩) ⟨W, W2, hto2⟩
                obtain ⟨hu1, hu2, hu3⟩ := hux
                injection hu3 with hu4 hu5 hu6 hu7 hu8
                have hu1 := hu1.symm; have hu2 := hu2.symm; have hu4 := hu4.symm; have hu5 := hu5.symm; have hu6 := hu6.symm; have hu7 := hu7.symm; have hu8 := hu8.symm
                subst hu1 hu2 hu4 hu5 hu6 hu7 hu8
                clear hallc
                obtain ⟨w8, hw8⟩ : ∃ z, z = w9 := ⟨_, rfl⟩
                rw [← hw8] at ha9 hk9 hc9 hS9 ⊢
                clear hw8
                have hmo := hto2.more
                have hs8 := hc9.size
                have hM8 := ((hMd.ch0 hd2).step (a := ⟨(f k).b, (f k).p, pg1, us1, rv2, tv2, R1, T1⟩) hk4 hc9 (by omega) ha9 hf9)
                have hP8 := ((hPd.ch hd2 (fun q => q)).ch hc9 (fun q => (hsub B q).1 rfl)).updB (a := ⟨(f k).b, (f k).p, pg1, us1, rv2, tv2, R1, T1⟩) (k := k) rfl
                obtain ⟨hI3, _⟩ := hI.alloc hk4 (by omega) (a := ⟨(f k).b, (f k).p, pg1, us1, rv2, tv2, R1, T1⟩) hto2
                have hgh : ∀ q, (footA (f k) q ∨ q = g ∨ q = h') → w0.heap.size ≤ q := fun q r => by
                  rcases r with r | r | r
                  · have := hfk _ r; omega
                  · omega
                  · omega
                have hn8 := (hnd.ch hd2 (fun q => q)).ch hc9 (fun q => by
                  rcases q with r | r | r
                  · have := hfk _ r; omega
                  · omega
                  · omega)
                have hG8 := (hGd.then0 hd2).andThen hc9 (fun q r => .inl (hgh q r))
                have hzz : ¬ (fun q => footA (f k) q ∨ q = g ∨ q = h') z := fun q => by
                  rcases q with r | r | r
                  · have := hfk z r; omega
                  · omega
                  · omega
                have hz8 := hc9.heap hz2d hzz
                have hXX : ¬ (fun q => footA (f k) q ∨ q = g ∨ q = h') X := fun q => by
                  rcases q with r | r | r
                  · have := hfk X r; omega
                  · omega
                  · omega
                have hX8 := ((hXd.ch hd2 (fun q => q))).ch hc9 hXX
                have hx8 := H11.step (A := ⟨(f k).b, (f k).p, pg1, us1, rv2, tv2, R1, T1⟩) hx2d hk4 hc9 hf9
                have hR8 := H11.step (A := ⟨(f k).b, (f k).p, pg1, us1, rv2, tv2, R1, T1⟩) hR2d hk4 hc9 hf9
                have hT8 := H11.step (A := ⟨(f k).b, (f k).p, pg1, us1, rv2, tv2, R1, T1⟩) hT2d hk4 hc9 hf9
                have hrw8 := Rows11.step (A := ⟨(f k).b, (f k).p, pg1, us1, rv2, tv2, R1, T1⟩) (s := ⟨qr1, cr1, qt1, ct1⟩) (hrwd.ch0 hd2) hk4 hc9 hf9 hR8 hT8
                have hRT8 : ∀ j, j < 4 → (upd f k ⟨(f k).b, (f k).p, pg1, us1, rv2, tv2, R1, T1⟩ j).R.length ≤ i + 1 ∧ (upd f k ⟨(f k).b, (f k).p, pg1, us1, rv2, tv2, R1, T1⟩ j).T.length ≤ i + 1 := fun j hj => by
                  have := hRT j hj
                  by_cases hjk : j = k
                  · subst hjk; rw [upd_same]; dsimp only; omega
                  · rw [upd_ne hjk]; omega
                have hxl8 : x1.length = N := by omega
                have zc0 := cellOf hz8 0 rfl
                have zc1 := cellOf hz8 1 rfl
                have zc2 := cellOf hz8 2 rfl
                have zc3 := cellOf hz8 3 rfl
                obtain ⟨xc0, xc1, xc2, xc3⟩ := hX8.cells hk4
                have xf0 := hX8.free (k * 4)
                have xf1 := hX8.free (k * 4 + 1)
                have xf2 := hX8.free (k * 4 + 2)
                have xf3 := hX8.free (k * 4 + 3)
                have hset := hX8.set hk4 (⟨(f k).b, (f k).p, pg1, us1, rv2, tv2, R1, T1⟩ : Ar) (⟨qr1, cr1, qt1, ct1⟩ : Sl4)
                dsimp only at hset
                have hchX : Ch (One X) w8 _ := Ch.setIn (F := One X) (Ch.setIn (F := One X) (Ch.setIn (F := One X) (Ch.setIn (F := One X) (Ch.refl _ w8) (p := ⟨X, k * 4, none⟩) rfl (.int .i64 (refPg pg1))) (p := ⟨X, k * 4 + 1, none⟩) rfl (.int .i64 (16 - us1))) (p := ⟨X, k * 4 + 2, none⟩) rfl (.slice qr1 R1.length cr1)) (p := ⟨X, k * 4 + 3, none⟩) rfl (.slice qt1 T1.length ct1)
                have bE : (rv == (E1 == 0)) = true := by rw [HRV.out]; by_cases e : E1 = 0 <;> simp [e]
                have HI8 := Lib.hid hI3; have HRT8 := Lib.hid hRT8; have HTO2 := Lib.hid hto2; have HXL := Lib.hid hxl8
                rw [hxl8]
                clear hI3 hRT8 hto2 hmo hxl8
                go_wp2_with fail
                obtain ⟨w3, hw3⟩ : ∃ z, z = ((((w8.setCell ⟨X, k * 4, none⟩ (.int .i64 (refPg pg1))).setCell ⟨X, k * 4 + 1, none⟩ (.int .i64 (16 - us1))).setCell ⟨X, k * 4 + 2, none⟩ (.slice qr1 R1.length cr1)).setCell ⟨X, k * 4 + 3, none⟩ (.slice qt1 T1.length ct1)) := ⟨_, rfl⟩
                rw [← hw3] at hset hchX ⊢
                obtain ⟨f3, hf3⟩ : ∃ z, z = upd f k ⟨(f k).b, (f k).p, pg1, us1, rv2, tv2, R1, T1⟩ := ⟨_, rfl⟩
                obtain ⟨r3, hr3⟩ : ∃ z, z = updS r k ⟨qr1, cr1, qt1, ct1⟩ := ⟨_, rfl⟩
                rw [← hf3] at hset hM8 hP8 hrw8 hx8 HI8 HRT8
                rw [← hr3] at hset hrw8
                have hX0 : ∀ q, One X q → q < base ∨ w8.heap.size ≤ q := fun q z => .inl (by have : q = X := z; omega)
                have hXH : ∀ q, One X q → H11 X g h' f3 q := fun q z => .inl (.inl z)
                have hM3 := hM8.ch hchX hX0
                have hP3 := hP8.ch hchX (fun q => by have : B = X := q; omega)
                have hk3 := hk9.ch hchX (fun q => by have : s = X := q; omega) (fun q => by have : p0 = X := q; omega) (fun q => by have : g = X := q; omega) (fun q => by have : m = X := q; omega) (fun q => by have : h' = X := q; omega)
                have hn3 := hn8.ch hchX (fun q => by have : 0 = X := q; omega)
                have hG3 := hG8.andThen hchX (fun q z => .inl (by have : q = X := z; show w0.heap.size ≤ q; omega))
                have hrw3 := hrw8.ch hchX hXH
                obtain ⟨q3, c3, hq3e⟩ : ∃ q3 c3, q3 = q1 ∧ c3 = c1 := ⟨_, _, rfl, rfl⟩
                obtain ⟨rfl, rfl⟩ := hq3e
                obtain ⟨x3, hx3⟩ : ∃ z, z = x1 := ⟨_, rfl⟩
                obtain ⟨W3, hW3⟩ : ∃ z, z = W2 := ⟨_, rfl⟩
                have hq3 := hx8.ch hchX hXH
                rw [← hx3] at hq3 hk3 HI8 HXL
                rw [← hW3] at hk3
                have hI3 := HI8.out; have hRT3 := HRT8.out; have hxl3 := HXL.out; have hX3 := hset
                have hs3 := hchX.size
                clear hx3 hW3 hf3 hr3 hw3 hset hM8 hP8 hrw8 hx8 HI8 HRT8 HXL hn8 hG8 hX0 hR8 hT8 hX8 hz8 zc0 zc1 zc2 zc3 xc0 xc1 xc2 xc3 xf0 xf1 xf2 xf3 HTO2
                have hAk := hM3.ar k hk4
                have hRk := (hRT3 k hk4)
                have hwk3 : Within11 (f3 k).R := (hI3.holds k hk4).within (by omega) (by omega)
                obtain ⟨C3, hC3⟩ : ∃ z, z = cntTo x3 x3.length := ⟨_, rfl⟩
                have hCle : C3 ≤ x3.length := by rw [hC3]; exact popB_le _ _
                obtain ⟨D3, hD3⟩ : ∃ z : Int, z = (N : Int) - (C3 : Int) := ⟨_, rfl⟩
                have ewD : IntKind.i64.wrap ((N : Int) - (C3 : Int)) = D3 := by rw [IntWalk.i64_in _ (by omega)]; exact hD3.symm
                obtain ⟨P3, hP3'⟩ : ∃ z, z = (pagesOf (f3 k).R).length := ⟨_, rfl⟩
                have hd3 : Ch No w3 w3.drew := (Ch.refl _ _).drew
                have hsz3 := hd3.size
                have hFs : ∀ W', Ch No w3.drew W' → ∀ q, H11 X g h' f3 q → q < W'.heap.size := fun W' hc q z => by
                  have h1 := hc.size
                  rcases z with z | ⟨j, hj, z⟩
                  · omega
                  · have := hM3.bd hj z
                    omega
                have hfr : ∀ W', Ch No w3.drew W' → Calls Tryd.prog 18 #[.pointer (some ⟨s, 0, none⟩)] W' fun e w' => e = .returned (.int .i64 D3) ∧ Ch No W' w' := fun W' hc => by
                  have := pages_Free W' s p0 g m h' x3 W3 ((hk3.ch0 hd3).ch0 hc)
                  rw [← hC3, hxl3, ← hD3] at this
                  exact this
                have hcn : ∀ W', Ch No w3.drew W' → Calls Tryd.prog 27 #[.slice q3 N c3] W' fun e w' => e = .returned (.int .i64 C3) ∧ W' = w' := fun W' hc => by
                  have := ref02_Count (H11 X g h' f3) W' q3 c3 x3 ((hq3.ch0 hd3).ch0 hc) (by omega)
                  rw [← hC3, hxl3] at this
                  exact this
                have hrn : ∀ W', Ch No w3.drew W' → Calls Tryd.prog 17 #[.pointer (some ⟨(f3 k).b, 0, none⟩)] W' fun e w' => ∃ q c', e = .returned (.slice q (f3 k).R.length c') ∧ SlR (pairRp .i64) No w' q c' (f3 k).R ∧ Ch No W' w' := fun W' hc => arena_Runs No W' base _ _ _ _ _ _ _ _ _ ((hAk.ch0 hd3).ch0 hc) (by omega) (no_lt _)
                have htn : ∀ W', Ch No w3.drew W' → Calls Tryd.prog 16 #[.pointer (some ⟨(f3 k).b, 0, none⟩)] W' fun e w' => ∃ q c', e = .returned (.slice q (f3 k).T.length c') ∧ SlR (pairRp .i64) No w' q c' (f3 k).T ∧ Ch No W' w' := fun W' hc => arena_Things No W' base _ _ _ _ _ _ _ _ _ ((hAk.ch0 hd3).ch0 hc) (by omega) (no_lt _)
                have hsm : ∀ W', Ch No w3.drew W' → ∀ qn cn, SlR (pairRp .i64) No W' qn cn (f3 k).R → Calls Tryd.prog 20 #[.slice qn (f3 k).R.length cn, .slice (r3 k).qr (f3 k).R.length (r3 k).cr] W' fun e w' => e = .returned (.bool true) ∧ Ch No W' w' := fun W' hc qn cn hq => by
                  have := ref06_Same No (H11 X g h' f3) W' _ _ _ _ _ _ hq (((hrw3 k hk4).1.ch0 hd3).ch0 hc) (by omega) (by omega)
                  rw [decide_eq_true rfl] at this
                  exact this
                have hsm' : ∀ W', Ch No w3.drew W' → ∀ qn cn, SlR (pairRp .i64) No W' qn cn (f3 k).T → Calls Tryd.prog 20 #[.slice qn (f3 k).T.length cn, .slice (r3 k).qt (f3 k).T.length (r3 k).ct] W' fun e w' => e = .returned (.bool true) ∧ Ch No W' w' := fun W' hc qn cn hq => by
                  have := ref06_Same No (H11 X g h' f3) W' _ _ _ _ _ _ hq (((hrw3 k hk4).2.ch0 hd3).ch0 hc) (by omega) (by omega)
                  rw [decide_eq_true rfl] at this
                  exact this
                have hpg : ∀ W', Ch No w3.drew W' → Calls Tryd.prog 12 #[.pointer (some ⟨(f3 k).b, 0, none⟩)] W' fun e w' => e = .returned (.int .i64 P3) ∧ Ch No W' w' := fun W' hc => by
                  rw [hP3']
                  exact arena_Pages W' base _ _ _ _ _ _ _ _ _ ((hAk.ch0 hd3).ch0 hc) hwk3
                have hrp : ∀ W', Ch No w3.drew W' → Calls Tryd.prog 28 #[.agg #[.int .i64 (refPg (f3 k).pg), .int .i64 (16 - (f3 k).us), .slice (r3 k).qr (f3 k).R.length (r3 k).cr, .slice (r3 k).qt (f3 k).T.length (r3 k).ct]] W' fun e w' => e = .returned (.int .i64 P3) ∧ Ch No W' w' := fun W' hc => by
                  rw [hP3']
                  exact ref11_Pages (H11 X g h' f3) W' _ _ _ _ _ _ _ _ (((hrw3 k hk4).1.ch0 hd3).ch0 hc) hwk3 (hFs W' hc)
                have hcx := (hX3.ch hd3 (fun q => q)).cells hk4
                have hcb := (hP3.ch hd3 (fun q => q)).cell hk4
                have K32 : ∀ W', Ch No w3.drew W' → (fun w' : World => ((w'.cell? ⟨X, k * 4, none⟩ = some (.int .i64 (refPg (f3 k).pg)) ∧ w'.cell? ⟨X, k * 4 + 1, none⟩ = some (.int .i64 (16 - (f3 k).us)) ∧ w'.cell? ⟨X, k * 4 + 2, none⟩ = some (.slice (r3 k).qr (f3 k).R.length (r3 k).cr) ∧ w'.cell? ⟨X, k * 4 + 3, none⟩ = some (.slice (r3 k).qt (f3 k).T.length (r3 k).ct)) ∧ w'.cell? ⟨B, k, none⟩ = some (.pointer (some ⟨(f3 k).b, 0, none⟩))) ∧ Ch No w3.drew w') W' := fun W' hc => ⟨⟨⟨hc.cell hcx.1 (fun q => q), hc.cell hcx.2.1 (fun q => q), hc.cell hcx.2.2.1 (fun q => q), hc.cell hcx.2.2.2 (fun q => q)⟩, hc.cell hcb (fun q => q)⟩, hc⟩
                have HI3 := Lib.hid hI3; have HRT := Lib.hid hRT3; have HX3 := Lib.hid hxl3
                clear hC3 hD3 hP3' hI3 hRT3 hxl3 hwk3
                clear hRk
                try go_wp2_with fail
                refine wp_region_held_drew (S := (fun w' : World => ((w'.cell? ⟨X, k * 4, none⟩ = some (.int .i64 (refPg (f3 k).pg)) ∧ w'.cell? ⟨X, k * 4 + 1, none⟩ = some (.int .i64 (16 - (f3 k).us)) ∧ w'.cell? ⟨X, k * 4 + 2, none⟩ = some (.slice (r3 k).qr (f3 k).R.length (r3 k).cr) ∧ w'.cell? ⟨X, k * 4 + 3, none⟩ = some (.slice (r3 k).qt (f3 k).T.length (r3 k).ct)) ∧ w'.cell? ⟨B, k, none⟩ = some (.pointer (some ⟨(f3 k).b, 0, none⟩))) ∧ Ch No w3.drew w')) (by kernel_rfl) (K32 _ (Ch.refl _ _)) (fun hHeld => ?_)
                refine wpAnyH_take (i := 0) (v := ?_) (by simp only [List.getElem?_toArray, List.getElem?_cons_zero, List.getElem?_cons_succ]; exact rfl) (by kernel_rfl) (by kernel_rfl) (by kernel_rfl) (by intro _ _ _ h; exact h) (Or.inl ⟨by rfl, ?_⟩) (by assumption) ?_
                rotate_left
                · intro w hSw
                  (try dsimp only at hSw)
                  go_simp
                  try (with_reducible rfl)
                try simp only [Act.put, List.setIfInBounds_toArray, List.set_cons_zero, List.set_cons_succ]
                refine wpAnyH_take (i := 2) (v := ?_) (by simp only [List.getElem?_toArray, List.getElem?_cons_zero, List.getElem?_cons_succ]; exact rfl) (by kernel_rfl) (by kernel_rfl) (by kernel_rfl) (by intro _ _ _ h; exact h) (Or.inl ⟨by rfl, ?_⟩) (by assumption) ?_
                rotate_left
                · intro w hSw
                  (try dsimp only at hSw)
                  go_simp
                  try (with_reducible rfl)
                try simp only [Act.put, List.setIfInBounds_toArray, List.set_cons_zero, List.set_cons_succ]
                refine wpAnyH_take (i := 3) (v := ?_) (by simp only [List.getElem?_toArray, List.getElem?_cons_zero, List.getElem?_cons_succ]; exact rfl) (by kernel_rfl) (by kernel_rfl) (by kernel_rfl) (by intro _ _ _ h; exact h) (Or.inl ⟨by rfl, ?_⟩) (by assumption) ?_
                rotate_left
                · intro w hSw
                  (try dsimp only at hSw)
                  go_simp
                  try (with_reducible rfl)
                try simp only [Act.put, List.setIfInBounds_toArray, List.set_cons_zero, List.set_cons_succ]
                refine wpAnyH_ready (rs := [1]) (by kernel_rfl) (by simp) ?_
                refine AllReadyH.cons (by simp only [List.getElem?_toArray, List.getElem?_cons_zero, List.getElem?_cons_succ]; exact rfl) (fun K hK => ?_) AllReadyH.nil
                go_simp
                (go_at_call 18; (with_reducible refine (hfr _ (And.right (by assumption))).mono ?_); rintro e w9 ⟨rfl, hc9⟩; have hS9 := K32 _ (Ch.trans (And.right (by assumption)) hc9); (try dsimp only))
                try go_wp2_with fail
                refine hK.out _ _ ?_ (fun hHeld => ?_)
                · try dsimp only
                  first | assumption | exact (by assumption) | fail
                clear hK K
                try simp only [Act.put, List.setIfInBounds_toArray, List.set_cons_zero, List.set_cons_succ]
                refine wpAnyH_ready (rs := [4]) (by kernel_rfl) (by simp) ?_
                refine AllReadyH.cons (by simp only [List.getElem?_toArray, List.getElem?_cons_zero, List.getElem?_cons_succ]; exact rfl) (fun K hK => ?_) AllReadyH.nil
                go_simp
                (go_at_call 27; (with_reducible refine (hcn _ (And.right (by assumption))).mono ?_); rintro e w9 ⟨rfl, rfl⟩; (try dsimp only))
                try go_wp2_with fail
                refine hK.out _ _ ?_ (fun hHeld => ?_)
                · try dsimp only
                  first | assumption | exact (by assumption) | fail
                clear hK K
                try simp only [Act.put, List.setIfInBounds_toArray, List.set_cons_zero, List.set_cons_succ]
                refine wpAnyH_take (i := 5) (v := ?_) (by simp only [List.getElem?_toArray, List.getElem?_cons_zero, List.getElem?_cons_succ]; exact rfl) (by kernel_rfl) (by kernel_rfl) (by kernel_rfl) (by intro _ _ _ h; exact h) (Or.inl ⟨by rfl, ?_⟩) (by assumption) ?_
                rotate_left
                · intro w hSw
                  (try dsimp only at hSw)
                  go_simp
                  try (with_reducible rfl)
                try simp only [Act.put, List.setIfInBounds_toArray, List.set_cons_zero, List.set_cons_succ]
                refine wpAnyH_take (i := 6) (v := ?_) (by simp only [List.getElem?_toArray, List.getElem?_cons_zero, List.getElem?_cons_succ]; exact rfl) (by kernel_rfl) (by kernel_rfl) (by kernel_rfl) (by intro _ _ _ h; exact h) (Or.inl ⟨by rfl, ?_⟩) (by assumption) ?_
                rotate_left
                · intro w hSw
                  (try dsimp only at hSw)
                  go_simp
                  try (with_reducible rfl)
                try simp only [Act.put, List.setIfInBounds_toArray, List.set_cons_zero, List.set_cons_succ]
                refine wpAnyH_take (i := 7) (v := ?_) (by simp only [List.getElem?_toArray, List.getElem?_cons_zero, List.getElem?_cons_succ]; exact rfl) (by kernel_rfl) (by kernel_rfl) (by kernel_rfl) (by intro _ _ _ h; exact h) (Or.inl ⟨by rfl, ?_⟩) (by assumption) ?_
                rotate_left
                · intro w hSw
                  (try dsimp only at hSw)
                  go_simp
                  try (with_reducible rfl)
                try simp only [Act.put, List.setIfInBounds_toArray, List.set_cons_zero, List.set_cons_succ]
                refine wpAnyH_take (i := 8) (v := ?_) (by simp only [List.getElem?_toArray, List.getElem?_cons_zero, List.getElem?_cons_succ]; exact rfl) (by kernel_rfl) (by kernel_rfl) (by kernel_rfl) (by intro _ _ _ h; exact h) (Or.inl ⟨by rfl, ?_⟩) (by assumption) ?_
                rotate_left
                · intro w hSw
                  (try dsimp only at hSw)
                  go_simp
                  try (with_reducible rfl)
                try simp only [Act.put, List.setIfInBounds_toArray, List.set_cons_zero, List.set_cons_succ]
                refine wpAnyH_take (i := 9) (v := ?_) (by simp only [List.getElem?_toArray, List.getElem?_cons_zero, List.getElem?_cons_succ]; exact rfl) (by kernel_rfl) (by kernel_rfl) (by kernel_rfl) (by intro _ _ _ h; exact h) (Or.inl ⟨by rfl, ?_⟩) (by assumption) ?_
                rotate_left
                · intro w hSw
                  (try dsimp only at hSw)
                  go_simp
                  try (with_reducible rfl)
                try simp only [Act.put, List.setIfInBounds_toArray, List.set_cons_zero, List.set_cons_succ]
                refine wpAnyH_take (i := 10) (v := ?_) (by simp only [List.getElem?_toArray, List.getElem?_cons_zero, List.getElem?_cons_succ]; exact rfl) (by kernel_rfl) (by kernel_rfl) (by kernel_rfl) (by intro _ _ _ h; exact h) (Or.inl ⟨by rfl, ?_⟩) (by assumption) ?_
                rotate_left
                · intro w hSw
                  (try dsimp only at hSw)
                  go_simp
                  try (with_reducible rfl)
                try simp only [Act.put, List.setIfInBounds_toArray, List.set_cons_zero, List.set_cons_succ]
                refine wpAnyH_take (i := 12) (v := ?_) (by simp only [List.getElem?_toArray, List.getElem?_cons_zero, List.getElem?_cons_succ]; exact rfl) (by kernel_rfl) (by kernel_rfl) (by kernel_rfl) (by intro _ _ _ h; exact h) (Or.inl ⟨by rfl, ?_⟩) (by assumption) ?_
                rotate_left
                · intro w hSw
                  (try dsimp only at hSw)
                  go_simp
                  try (with_reducible rfl)
                try simp only [Act.put, List.setIfInBounds_toArray, List.set_cons_zero, List.set_cons_succ]
                refine wpAnyH_take (i := 13) (v := ?_) (by simp only [List.getElem?_toArray, List.getElem?_cons_zero, List.getElem?_cons_succ]; exact rfl) (by kernel_rfl) (by kernel_rfl) (by kernel_rfl) (by intro _ _ _ h; exact h) (Or.inl ⟨by rfl, ?_⟩) (by assumption) ?_
                rotate_left
                · intro w hSw
                  (try dsimp only at hSw)
                  go_simp
                  try (with_reducible rfl)
                try simp only [Act.put, List.setIfInBounds_toArray, List.set_cons_zero, List.set_cons_succ]
                refine wpAnyH_take (i := 14) (v := ?_) (by simp only [List.getElem?_toArray, List.getElem?_cons_zero, List.getElem?_cons_succ]; exact rfl) (by kernel_rfl) (by kernel_rfl) (by kernel_rfl) (by intro _ _ _ h; exact h) (Or.inl ⟨by rfl, ?_⟩) (by assumption) ?_
                rotate_left
                · intro w hSw
                  (try dsimp only at hSw)
                  go_simp
                  try (with_reducible rfl)
                try simp only [Act.put, List.setIfInBounds_toArray, List.set_cons_zero, List.set_cons_succ]
                refine wpAnyH_take (i := 15) (v := ?_) (by simp only [List.getElem?_toArray, List.getElem?_cons_zero, List.getElem?_cons_succ]; exact rfl) (by kernel_rfl) (by kernel_rfl) (by kernel_rfl) (by intro _ _ _ h; exact h) (Or.inl ⟨by rfl, ?_⟩) (by assumption) ?_
                rotate_left
                · intro w hSw
                  (try dsimp only at hSw)
                  go_simp
                  try (with_reducible rfl)
                try simp only [Act.put, List.setIfInBounds_toArray, List.set_cons_zero, List.set_cons_succ]
                refine wpAnyH_ready (rs := [11]) (by kernel_rfl) (by simp) ?_
                refine AllReadyH.cons (by simp only [List.getElem?_toArray, List.getElem?_cons_zero, List.getElem?_cons_succ]; exact rfl) (fun K hK => ?_) AllReadyH.nil
                go_simp
                (go_at_call 17; (with_reducible refine (hrn _ (And.right (by assumption))).mono ?_); rintro e w9 ⟨qn, cn, rfl, hsn, hc9⟩; have hS9 := K32 _ (Ch.trans (And.right (by assumption)) hc9); (try dsimp only))
                try go_wp2_with fail
                refine hK.out _ _ ?_ (fun hHeld => ?_)
                · try dsimp only
                  first | assumption | exact (by assumption) | fail
                clear hK K
                try simp only [Act.put, List.setIfInBounds_toArray, List.set_cons_zero, List.set_cons_succ]
                refine wpAnyH_ready (rs := [16]) (by kernel_rfl) (by simp) ?_
                refine AllReadyH.cons (by simp only [List.getElem?_toArray, List.getElem?_cons_zero, List.getElem?_cons_succ]; exact rfl) (fun K hK => ?_) AllReadyH.nil
                go_simp
                (go_at_call 20; (with_reducible refine (hsm _ (And.right (by assumption)) qn cn hsn).mono ?_); rintro e w9 ⟨rfl, hc9⟩; have hS9 := K32 _ (Ch.trans (And.right (by assumption)) hc9); (try dsimp only))
                try go_wp2_with fail
                refine hK.out _ _ ?_ (fun hHeld => ?_)
                · try dsimp only
                  first | assumption | exact (by assumption) | fail
                clear hK K
                try simp only [Act.put, List.setIfInBounds_toArray, List.set_cons_zero, List.set_cons_succ]
                refine wpAnyH_take (i := 17) (v := ?_) (by simp only [List.getElem?_toArray, List.getElem?_cons_zero, List.getElem?_cons_succ]; exact rfl) (by kernel_rfl) (by kernel_rfl) (by kernel_rfl) (by intro _ _ _ h; exact h) (Or.inl ⟨by rfl, ?_⟩) (by assumption) ?_
                rotate_left
                · intro w hSw
                  (try dsimp only at hSw)
                  go_simp
                  try (with_reducible rfl)
                try simp only [Act.put, List.setIfInBounds_toArray, List.set_cons_zero, List.set_cons_succ]
                refine wpAnyH_take (i := 18) (v := ?_) (by simp only [List.getElem?_toArray, List.getElem?_cons_zero, List.getElem?_cons_succ]; exact rfl) (by kernel_rfl) (by kernel_rfl) (by kernel_rfl) (by intro _ _ _ h; exact h) (Or.inl ⟨by rfl, ?_⟩) (by assumption) ?_
                rotate_left
                · intro w hSw
                  (try dsimp only at hSw)
                  go_simp
                  try (with_reducible rfl)
                try simp only [Act.put, List.setIfInBounds_toArray, List.set_cons_zero, List.set_cons_succ]
                refine wpAnyH_take (i := 19) (v := ?_) (by simp only [List.getElem?_toArray, List.getElem?_cons_zero, List.getElem?_cons_succ]; exact rfl) (by kernel_rfl) (by kernel_rfl) (by kernel_rfl) (by intro _ _ _ h; exact h) (Or.inl ⟨by rfl, ?_⟩) (by assumption) ?_
                rotate_left
                · intro w hSw
                  (try dsimp only at hSw)
                  go_simp
                  try (with_reducible rfl)
                try simp only [Act.put, List.setIfInBounds_toArray, List.set_cons_zero, List.set_cons_succ]
                refine wpAnyH_take (i := 20) (v := ?_) (by simp only [List.getElem?_toArray, List.getElem?_cons_zero, List.getElem?_cons_succ]; exact rfl) (by kernel_rfl) (by kernel_rfl) (by kernel_rfl) (by intro _ _ _ h; exact h) (Or.inl ⟨by rfl, ?_⟩) (by assumption) ?_
                rotate_left
                · intro w hSw
                  (try dsimp only at hSw)
                  go_simp
                  try (with_reducible rfl)
                try simp only [Act.put, List.setIfInBounds_toArray, List.set_cons_zero, List.set_cons_succ]
                refine wpAnyH_take (i := 21) (v := ?_) (by simp only [List.getElem?_toArray, List.getElem?_cons_zero, List.getElem?_cons_succ]; exact rfl) (by kernel_rfl) (by kernel_rfl) (by kernel_rfl) (by intro _ _ _ h; exact h) (Or.inl ⟨by rfl, ?_⟩) (by assumption) ?_
                rotate_left
                · intro w hSw
                  (try dsimp only at hSw)
                  go_simp
                  try (with_reducible rfl)
                try simp only [Act.put, List.setIfInBounds_toArray, List.set_cons_zero, List.set_cons_succ]
                refine wpAnyH_take (i := 22) (v := ?_) (by simp only [List.getElem?_toArray, List.getElem?_cons_zero, List.getElem?_cons_succ]; exact rfl) (by kernel_rfl) (by kernel_rfl) (by kernel_rfl) (by intro _ _ _ h; exact h) (Or.inl ⟨by rfl, ?_⟩) (by assumption) ?_
                rotate_left
                · intro w hSw
                  (try dsimp only at hSw)
                  go_simp
                  try (with_reducible rfl)
                try simp only [Act.put, List.setIfInBounds_toArray, List.set_cons_zero, List.set_cons_succ]
                refine wpAnyH_take (i := 24) (v := ?_) (by simp only [List.getElem?_toArray, List.getElem?_cons_zero, List.getElem?_cons_succ]; exact rfl) (by kernel_rfl) (by kernel_rfl) (by kernel_rfl) (by intro _ _ _ h; exact h) (Or.inl ⟨by rfl, ?_⟩) (by assumption) ?_
                rotate_left
                · intro w hSw
                  (try dsimp only at hSw)
                  go_simp
                  try (with_reducible rfl)
                try simp only [Act.put, List.setIfInBounds_toArray, List.set_cons_zero, List.set_cons_succ]
                refine wpAnyH_take (i := 25) (v := ?_) (by simp only [List.getElem?_toArray, List.getElem?_cons_zero, List.getElem?_cons_succ]; exact rfl) (by kernel_rfl) (by kernel_rfl) (by kernel_rfl) (by intro _ _ _ h; exact h) (Or.inl ⟨by rfl, ?_⟩) (by assumption) ?_
                rotate_left
                · intro w hSw
                  (try dsimp only at hSw)
                  go_simp
                  try (with_reducible rfl)
                try simp only [Act.put, List.setIfInBounds_toArray, List.set_cons_zero, List.set_cons_succ]
                refine wpAnyH_take (i := 26) (v := ?_) (by simp only [List.getElem?_toArray, List.getElem?_cons_zero, List.getElem?_cons_succ]; exact rfl) (by kernel_rfl) (by kernel_rfl) (by kernel_rfl) (by intro _ _ _ h; exact h) (Or.inl ⟨by rfl, ?_⟩) (by assumption) ?_
                rotate_left
                · intro w hSw
                  (try dsimp only at hSw)
                  go_simp
                  try (with_reducible rfl)
                try simp only [Act.put, List.setIfInBounds_toArray, List.set_cons_zero, List.set_cons_succ]
                refine wpAnyH_take (i := 27) (v := ?_) (by simp only [List.getElem?_toArray, List.getElem?_cons_zero, List.getElem?_cons_succ]; exact rfl) (by kernel_rfl) (by kernel_rfl) (by kernel_rfl) (by intro _ _ _ h; exact h) (Or.inl ⟨by rfl, ?_⟩) (by assumption) ?_
                rotate_left
                · intro w hSw
                  (try dsimp only at hSw)
                  go_simp
                  try (with_reducible rfl)
                try simp only [Act.put, List.setIfInBounds_toArray, List.set_cons_zero, List.set_cons_succ]
                refine wpAnyH_ready (rs := [23]) (by kernel_rfl) (by simp) ?_
                refine AllReadyH.cons (by simp only [List.getElem?_toArray, List.getElem?_cons_zero, List.getElem?_cons_succ]; exact rfl) (fun K hK => ?_) AllReadyH.nil
                go_simp
                (go_at_call 16; (with_reducible refine (htn _ (And.right (by assumption))).mono ?_); rintro e w9 ⟨qm, cm, rfl, hsm2, hc9⟩; have hS9 := K32 _ (Ch.trans (And.right (by assumption)) hc9); (try dsimp only))
                try go_wp2_with fail
                refine hK.out _ _ ?_ (fun hHeld => ?_)
                · try dsimp only
                  first | assumption | exact (by assumption) | fail
                clear hK K
                try simp only [Act.put, List.setIfInBounds_toArray, List.set_cons_zero, List.set_cons_succ]
                refine wpAnyH_ready (rs := [28]) (by kernel_rfl) (by simp) ?_
                refine AllReadyH.cons (by simp only [List.getElem?_toArray, List.getElem?_cons_zero, List.getElem?_cons_succ]; exact rfl) (fun K hK => ?_) AllReadyH.nil
                go_simp
                (go_at_call 20; (with_reducible refine (hsm' _ (And.right (by assumption)) qm cm hsm2).mono ?_); rintro e w9 ⟨rfl, hc9⟩; have hS9 := K32 _ (Ch.trans (And.right (by assumption)) hc9); (try dsimp only))
                try go_wp2_with fail
                refine hK.out _ _ ?_ (fun hHeld => ?_)
                · try dsimp only
                  first | assumption | exact (by assumption) | fail
                clear hK K
                try simp only [Act.put, List.setIfInBounds_toArray, List.set_cons_zero, List.set_cons_succ]
                refine wpAnyH_take (i := 29) (v := ?_) (by simp only [List.getElem?_toArray, List.getElem?_cons_zero, List.getElem?_cons_succ]; exact rfl) (by kernel_rfl) (by kernel_rfl) (by kernel_rfl) (by intro _ _ _ h; exact h) (Or.inl ⟨by rfl, ?_⟩) (by assumption) ?_
                rotate_left
                · intro w hSw
                  (try dsimp only at hSw)
                  go_simp
                  try (with_reducible rfl)
                try simp only [Act.put, List.setIfInBounds_toArray, List.set_cons_zero, List.set_cons_succ]
                refine wpAnyH_take (i := 30) (v := ?_) (by simp only [List.getElem?_toArray, List.getElem?_cons_zero, List.getElem?_cons_succ]; exact rfl) (by kernel_rfl) (by kernel_rfl) (by kernel_rfl) (by intro _ _ _ h; exact h) (Or.inl ⟨by rfl, ?_⟩) (by assumption) ?_
                rotate_left
                · intro w hSw
                  (try dsimp only at hSw)
                  go_simp
                  try (with_reducible rfl)
                try simp only [Act.put, List.setIfInBounds_toArray, List.set_cons_zero, List.set_cons_succ]
                refine wpAnyH_take (i := 31) (v := ?_) (by simp only [List.getElem?_toArray, List.getElem?_cons_zero, List.getElem?_cons_succ]; exact rfl) (by kernel_rfl) (by kernel_rfl) (by kernel_rfl) (by intro _ _ _ h; exact h) (Or.inl ⟨by rfl, ?_⟩) (by assumption) ?_
                rotate_left
                · intro w hSw
                  (try dsimp only at hSw)
                  go_simp
                  try (with_reducible rfl)
                try simp only [Act.put, List.setIfInBounds_toArray, List.set_cons_zero, List.set_cons_succ]
                refine wpAnyH_take (i := 32) (v := ?_) (by simp only [List.getElem?_toArray, List.getElem?_cons_zero, List.getElem?_cons_succ]; exact rfl) (by kernel_rfl) (by kernel_rfl) (by kernel_rfl) (by intro _ _ _ h; exact h) (Or.inl ⟨by rfl, ?_⟩) (by assumption) ?_
                rotate_left
                · intro w hSw
                  (try dsimp only at hSw)
                  go_simp
                  try (with_reducible rfl)
                try simp only [Act.put, List.setIfInBounds_toArray, List.set_cons_zero, List.set_cons_succ]
                refine wpAnyH_take (i := 33) (v := ?_) (by simp only [List.getElem?_toArray, List.getElem?_cons_zero, List.getElem?_cons_succ]; exact rfl) (by kernel_rfl) (by kernel_rfl) (by kernel_rfl) (by intro _ _ _ h; exact h) (Or.inl ⟨by rfl, ?_⟩) (by assumption) ?_
                rotate_left
                · intro w hSw
                  (try dsimp only at hSw)
                  go_simp
                  try (with_reducible rfl)
                try simp only [Act.put, List.setIfInBounds_toArray, List.set_cons_zero, List.set_cons_succ]
                refine wpAnyH_take (i := 34) (v := ?_) (by simp only [List.getElem?_toArray, List.getElem?_cons_zero, List.getElem?_cons_succ]; exact rfl) (by kernel_rfl) (by kernel_rfl) (by kernel_rfl) (by intro _ _ _ h; exact h) (Or.inl ⟨by rfl, ?_⟩) (by assumption) ?_
                rotate_left
                · intro w hSw
                  (try dsimp only at hSw)
                  go_simp
                  try (with_reducible rfl)
                try simp only [Act.put, List.setIfInBounds_toArray, List.set_cons_zero, List.set_cons_succ]
                refine wpAnyH_take (i := 36) (v := ?_) (by simp only [List.getElem?_toArray, List.getElem?_cons_zero, List.getElem?_cons_succ]; exact rfl) (by kernel_rfl) (by kernel_rfl) (by kernel_rfl) (by intro _ _ _ h; exact h) (Or.inl ⟨by rfl, ?_⟩) (by assumption) ?_
                rotate_left
                · intro w hSw
                  (try dsimp only at hSw)
                  go_simp
                  try (with_reducible rfl)
                try simp only [Act.put, List.setIfInBounds_toArray, List.set_cons_zero, List.set_cons_succ]
                refine wpAnyH_take (i := 37) (v := ?_) (by simp only [List.getElem?_toArray, List.getElem?_cons_zero, List.getElem?_cons_succ]; exact rfl) (by kernel_rfl) (by kernel_rfl) (by kernel_rfl) (by intro _ _ _ h; exact h) (Or.inl ⟨by rfl, ?_⟩) (by assumption) ?_
                rotate_left
                · intro w hSw
                  (try dsimp only at hSw)
                  go_simp
                  try (with_reducible rfl)
                try simp only [Act.put, List.setIfInBounds_toArray, List.set_cons_zero, List.set_cons_succ]
                refine wpAnyH_take (i := 38) (v := ?_) (by simp only [List.getElem?_toArray, List.getElem?_cons_zero, List.getElem?_cons_succ]; exact rfl) (by kernel_rfl) (by kernel_rfl) (by kernel_rfl) (by intro _ _ _ h; exact h) (Or.inl ⟨by rfl, ?_⟩) (by assumption) ?_
                rotate_left
                · intro w hSw
                  (try dsimp only at hSw)
                  go_simp
                  try (with_reducible rfl)
                try simp only [Act.put, List.setIfInBounds_toArray, List.set_cons_zero, List.set_cons_succ]
                refine wpAnyH_ready (rs := [35]) (by kernel_rfl) (by simp) ?_
                refine AllReadyH.cons (by simp only [List.getElem?_toArray, List.getElem?_cons_zero, List.getElem?_cons_succ]; exact rfl) (fun K hK => ?_) AllReadyH.nil
                go_simp
                (go_at_call 12; (with_reducible refine (hpg _ (And.right (by assumption))).mono ?_); rintro e w9 ⟨rfl, hc9⟩; have hS9 := K32 _ (Ch.trans (And.right (by assumption)) hc9); (try dsimp only))
                try go_wp2_with fail
                refine hK.out _ _ ?_ (fun hHeld => ?_)
                · try dsimp only
                  first | assumption | exact (by assumption) | fail
                clear hK K
                try simp only [Act.put, List.setIfInBounds_toArray, List.set_cons_zero, List.set_cons_succ]
                refine wpAnyH_ready (rs := [39]) (by kernel_rfl) (by simp) ?_
                refine AllReadyH.cons (by simp only [List.getElem?_toArray, List.getElem?_cons_zero, List.getElem?_cons_succ]; exact rfl) (fun K hK => ?_) AllReadyH.nil
                go_simp
                (go_at_call 28; (with_reducible refine (hrp _ (And.right (by assumption))).mono ?_); rintro e w9 ⟨rfl, hc9⟩; have hS9 := K32 _ (Ch.trans (And.right (by assumption)) hc9); (try dsimp only))
                try go_wp2_with fail
                refine hK.out _ _ ?_ (fun hHeld => ?_)
                · try dsimp only
                  first | assumption | exact (by assumption) | fail
                clear hK K
                try simp only [Act.put, List.setIfInBounds_toArray, List.set_cons_zero, List.set_cons_succ]
                refine wpAnyH_take (i := 40) (v := ?_) (by simp only [List.getElem?_toArray, List.getElem?_cons_zero, List.getElem?_cons_succ]; exact rfl) (by kernel_rfl) (by kernel_rfl) (by kernel_rfl) (by intro _ _ _ h; exact h) (Or.inl ⟨by rfl, ?_⟩) (by assumption) ?_
                rotate_left
                · intro w hSw
                  (try dsimp only at hSw)
                  go_simp
                  try (with_reducible rfl)
                try simp only [Act.put, List.setIfInBounds_toArray, List.set_cons_zero, List.set_cons_succ]
                refine wpAnyH_take (i := 41) (v := ?_) (by simp only [List.getElem?_toArray, List.getElem?_cons_zero, List.getElem?_cons_succ]; exact rfl) (by kernel_rfl) (by kernel_rfl) (by kernel_rfl) (by intro _ _ _ h; exact h) (Or.inl ⟨by rfl, ?_⟩) (by assumption) ?_
                rotate_left
                · intro w hSw
                  (try dsimp only at hSw)
                  go_simp
                  try (with_reducible rfl)
                try simp only [Act.put, List.setIfInBounds_toArray, List.set_cons_zero, List.set_cons_succ]
                refine wpAnyH_done (by kernel_rfl) ?_ _
                have hcF : Ch No w3 _ := hd3.trans hS9.2
                have hsF := hcF.size
                try go_wp2_with fail
                go_roundw
                case rel => exact ⟨i + 1, f3, r3, x3, W3, q3, c3, by omega, by go_num, rfl, hM3.ch0 hcF, hP3.ch hcF (fun q => q), hk3.ch0 hcF, HI3.out, HX3.out, HRT.out, hG3.then0 hcF, hn3.ch hcF (fun q => q), by omega, hX3.ch hcF (fun q => q), hrw3.ch0 hcF, hq3.ch0 hcF⟩
                case measure => exact meas_lt (by omega)
          · obtain rfl : i = l.length := by omega
            have hdpr := hG.heap hdp (fun q => by have : w0.heap.size ≤ w.heap.size := q; omega)
            have pc0 := cellOf hdpr 0 rfl
            have pc1 := cellOf hdpr 1 rfl
            obtain ⟨U, hU⟩ : ∃ U : Int, U = IntKind.u64.wrap pp0 := ⟨_, rfl⟩
            have hUb : 0 ≤ U ∧ U ≤ 18446744073709551615 := by rw [hU]; exact InK.wrap .u64 pp0
            obtain ⟨k, hkk⟩ : ∃ k : Nat, k = (U % 4).toNat := ⟨_, rfl⟩
            have hk4 : k < 4 := by omega
            have hk4i : (k : Int) < 4 := by omega
            have f1 : IntKind.u64.wrap pp0 = U := hU.symm
            have f2 : U.tmod 4 = (k : Int) := by rw [Int.tmod_eq_emod_of_nonneg (by omega)]; omega
            have f3 : IntKind.u64.wrap (k : Int) = (k : Int) := by simp [IntKind.wrap, IntKind.bits, IntKind.signed]; omega
            have f4 : IntKind.i64.wrap (k : Int) = (k : Int) := IntWalk.i64_in _ (by omega)
            have hAk := hM.ar k hk4
            have hwk : Within11 (f k).R := (hI.holds k hk4).within (by have := (hRT k hk4).1; omega) (by omega)
            have hd3 : Ch No wr wr.drew := (Ch.refl _ _).drew
            have hcx := (hXr.ch hd3 (fun q => q)).cells hk4
            have hcb := (hP.ch hd3 (fun q => q)).cell hk4
            have pcd := hd3.cell pc1 (fun q => q)
            have hfx := fun (W' : World) (hc : Ch No wr.drew W') => fixed11 W' ((hnr.ch hd3 (fun q => q)).ch hc (fun q => q))
            obtain ⟨V, hV⟩ : ∃ V : Bool, V = decide (0 ≤ p1 ∧ p1 / 16 ∈ pagesOf (f k).R) := ⟨_, rfl⟩
            have hhs : ∀ W', Ch No wr.drew W' → Calls Tryd.prog 13 #[.pointer (some ⟨(f k).b, 0, none⟩), .int .i64 p1] W' fun e w' => e = .returned (.bool V) ∧ Ch No W' w' := fun W' hc => by
              rw [hV]
              exact arena_Has W' base _ _ _ _ _ _ _ _ _ p1 ((hAk.ch0 hd3).ch0 hc) hwk hpq
            have hrh : ∀ W', Ch No wr.drew W' → Calls Tryd.prog 29 #[.agg #[.int .i64 (refPg (f k).pg), .int .i64 (16 - (f k).us), .slice (r k).qr (f k).R.length (r k).cr, .slice (r k).qt (f k).T.length (r k).ct], .int .i64 p1] W' fun e w' => e = .returned (.bool V) ∧ Ch No W' w' := fun W' hc => by
              rw [hV]
              exact ref11_Has (H11 X g h' f) W' _ _ _ _ _ _ _ _ p1 (((hrwr k hk4).1.ch0 hd3).ch0 hc) hwk hpq
            have K36 : ∀ W', Ch No wr.drew W' → (fun w' : World => ((w'.cell? ⟨X, k * 4, none⟩ = some (.int .i64 (refPg (f k).pg)) ∧ w'.cell? ⟨X, k * 4 + 1, none⟩ = some (.int .i64 (16 - (f k).us)) ∧ w'.cell? ⟨X, k * 4 + 2, none⟩ = some (.slice (r k).qr (f k).R.length (r k).cr) ∧ w'.cell? ⟨X, k * 4 + 3, none⟩ = some (.slice (r k).qt (f k).T.length (r k).ct)) ∧ w'.cell? ⟨B, k, none⟩ = some (.pointer (some ⟨(f k).b, 0, none⟩)) ∧ w'.cell? ⟨w.heap.size, 1, none⟩ = some (.int .i64 p1)) ∧ Ch No wr.drew w') W' := fun W' hc => ⟨⟨⟨hc.cell hcx.1 (fun q => q), hc.cell hcx.2.1 (fun q => q), hc.cell hcx.2.2.1 (fun q => q), hc.cell hcx.2.2.2 (fun q => q)⟩, hc.cell hcb (fun q => q), hc.cell pcd (fun q => q)⟩, hc⟩
            have HG0 := Lib.hid hG
            clear hU hkk hV hI hRT hxl hwk hG
            go_wp2_with fail
            refine wp_region_held_drew (S := (fun w' : World => ((w'.cell? ⟨X, k * 4, none⟩ = some (.int .i64 (refPg (f k).pg)) ∧ w'.cell? ⟨X, k * 4 + 1, none⟩ = some (.int .i64 (16 - (f k).us)) ∧ w'.cell? ⟨X, k * 4 + 2, none⟩ = some (.slice (r k).qr (f k).R.length (r k).cr) ∧ w'.cell? ⟨X, k * 4 + 3, none⟩ = some (.slice (r k).qt (f k).T.length (r k).ct)) ∧ w'.cell? ⟨B, k, none⟩ = some (.pointer (some ⟨(f k).b, 0, none⟩)) ∧ w'.cell? ⟨w.heap.size, 1, none⟩ = some (.int .i64 p1)) ∧ Ch No wr.drew w')) (by kernel_rfl) (K36 _ (Ch.refl _ _)) (fun hHeld => ?_)
            refine wpAnyH_ready (rs := [0]) (by kernel_rfl) (by simp) ?_
            refine AllReadyH.cons (by simp only [List.getElem?_toArray, List.getElem?_cons_zero, List.getElem?_cons_succ]; exact rfl) (fun K hK => ?_) AllReadyH.nil
            go_simp
            (go_at_call 9; (with_reducible refine (hfx _ (And.right (by assumption))).mono ?_); rintro e w9 ⟨rfl, hc9⟩; have hS9 := K36 _ (Ch.trans (And.right (by assumption)) hc9); (try dsimp only))
            try go_wp2_with fail
            refine hK.out _ _ ?_ (fun hHeld => ?_)
            · try dsimp only
              first | assumption | exact (by assumption) | fail
            clear hK K
            try simp only [Act.put, List.setIfInBounds_toArray, List.set_cons_zero, List.set_cons_succ]
            refine wpAnyH_take (i := 1) (v := ?_) (by simp only [List.getElem?_toArray, List.getElem?_cons_zero, List.getElem?_cons_succ]; exact rfl) (by kernel_rfl) (by kernel_rfl) (by kernel_rfl) (by intro _ _ _ h; exact h) (Or.inl ⟨by rfl, ?_⟩) (by assumption) ?_
            rotate_left
            · intro w hSw
              (try dsimp only at hSw)
              go_simp
              try (with_reducible rfl)
            try simp only [Act.put, List.setIfInBounds_toArray, List.set_cons_zero, List.set_cons_succ]
            refine wpAnyH_take (i := 2) (v := ?_) (by simp only [List.getElem?_toArray, List.getElem?_cons_zero, List.getElem?_cons_succ]; exact rfl) (by kernel_rfl) (by kernel_rfl) (by kernel_rfl) (by intro _ _ _ h; exact h) (Or.inl ⟨by rfl, ?_⟩) (by assumption) ?_
            rotate_left
            · intro w hSw
              (try dsimp only at hSw)
              go_simp
              try (with_reducible rfl)
            try simp only [Act.put, List.setIfInBounds_toArray, List.set_cons_zero, List.set_cons_succ]
            refine wpAnyH_take (i := 3) (v := ?_) (by simp only [List.getElem?_toArray, List.getElem?_cons_zero, List.getElem?_cons_succ]; exact rfl) (by kernel_rfl) (by kernel_rfl) (by kernel_rfl) (by intro _ _ _ h; exact h) (Or.inl ⟨by rfl, ?_⟩) (by assumption) ?_
            rotate_left
            · intro w hSw
              (try dsimp only at hSw)
              go_simp
              try (with_reducible rfl)
            try simp only [Act.put, List.setIfInBounds_toArray, List.set_cons_zero, List.set_cons_succ]
            refine wpAnyH_take (i := 4) (v := ?_) (by simp only [List.getElem?_toArray, List.getElem?_cons_zero, List.getElem?_cons_succ]; exact rfl) (by kernel_rfl) (by kernel_rfl) (by kernel_rfl) (by intro _ _ _ h; exact h) (Or.inl ⟨by rfl, ?_⟩) (by assumption) ?_
            rotate_left
            · intro w hSw
              (try dsimp only at hSw)
              go_simp
              try (with_reducible rfl)
            try simp only [Act.put, List.setIfInBounds_toArray, List.set_cons_zero, List.set_cons_succ]
            refine wpAnyH_take (i := 5) (v := ?_) (by simp only [List.getElem?_toArray, List.getElem?_cons_zero, List.getElem?_cons_succ]; exact rfl) (by kernel_rfl) (by kernel_rfl) (by kernel_rfl) (by intro _ _ _ h; exact h) (Or.inl ⟨by rfl, ?_⟩) (by assumption) ?_
            rotate_left
            · intro w hSw
              (try dsimp only at hSw)
              go_simp
              try (with_reducible rfl)
            try simp only [Act.put, List.setIfInBounds_toArray, List.set_cons_zero, List.set_cons_succ]
            refine wpAnyH_take (i := 6) (v := ?_) (by simp only [List.getElem?_toArray, List.getElem?_cons_zero, List.getElem?_cons_succ]; exact rfl) (by kernel_rfl) (by kernel_rfl) (by kernel_rfl) (by intro _ _ _ h; exact h) (Or.inl ⟨by rfl, ?_⟩) (by assumption) ?_
            rotate_left
            · intro w hSw
              (try dsimp only at hSw)
              go_simp
              try (with_reducible rfl)
            try simp only [Act.put, List.setIfInBounds_toArray, List.set_cons_zero, List.set_cons_succ]
            refine wpAnyH_take (i := 8) (v := ?_) (by simp only [List.getElem?_toArray, List.getElem?_cons_zero, List.getElem?_cons_succ]; exact rfl) (by kernel_rfl) (by kernel_rfl) (by kernel_rfl) (by intro _ _ _ h; exact h) (Or.inl ⟨by rfl, ?_⟩) (by assumption) ?_
            rotate_left
            · intro w hSw
              (try dsimp only at hSw)
              go_simp
              try (with_reducible rfl)
            try simp only [Act.put, List.setIfInBounds_toArray, List.set_cons_zero, List.set_cons_succ]
            refine wpAnyH_take (i := 9) (v := ?_) (by simp only [List.getElem?_toArray, List.getElem?_cons_zero, List.getElem?_cons_succ]; exact rfl) (by kernel_rfl) (by kernel_rfl) (by kernel_rfl) (by intro _ _ _ h; exact h) (Or.inl ⟨by rfl, ?_⟩) (by assumption) ?_
            rotate_left
            · intro w hSw
              (try dsimp only at hSw)
              go_simp
              try (with_reducible rfl)
            try simp only [Act.put, List.setIfInBounds_toArray, List.set_cons_zero, List.set_cons_succ]
            refine wpAnyH_take (i := 10) (v := ?_) (by simp only [List.getElem?_toArray, List.getElem?_cons_zero, List.getElem?_cons_succ]; exact rfl) (by kernel_rfl) (by kernel_rfl) (by kernel_rfl) (by intro _ _ _ h; exact h) (Or.inl ⟨by rfl, ?_⟩) (by assumption) ?_
            rotate_left
            · intro w hSw
              (try dsimp only at hSw)
              go_simp
              try (with_reducible rfl)
            try simp only [Act.put, List.setIfInBounds_toArray, List.set_cons_zero, List.set_cons_succ]
            refine wpAnyH_take (i := 11) (v := ?_) (by simp only [List.getElem?_toArray, List.getElem?_cons_zero, List.getElem?_cons_succ]; exact rfl) (by kernel_rfl) (by kernel_rfl) (by kernel_rfl) (by intro _ _ _ h; exact h) (Or.inl ⟨by rfl, ?_⟩) (by assumption) ?_
            rotate_left
            · intro w hSw
              (try dsimp only at hSw)
              go_simp
              try (with_reducible rfl)
            try simp only [Act.put, List.setIfInBounds_toArray, List.set_cons_zero, List.set_cons_succ]
            refine wpAnyH_take (i := 12) (v := ?_) (by simp only [List.getElem?_toArray, List.getElem?_cons_zero, List.getElem?_cons_succ]; exact rfl) (by kernel_rfl) (by kernel_rfl) (by kernel_rfl) (by intro _ _ _ h; exact h) (Or.inl ⟨by rfl, ?_⟩) (by assumption) ?_
            rotate_left
            · intro w hSw
              (try dsimp only at hSw)
              go_simp
              try (with_reducible rfl)
            try simp only [Act.put, List.setIfInBounds_toArray, List.set_cons_zero, List.set_cons_succ]
            refine wpAnyH_ready (rs := [7]) (by kernel_rfl) (by simp) ?_
            refine AllReadyH.cons (by simp only [List.getElem?_toArray, List.getElem?_cons_zero, List.getElem?_cons_succ]; exact rfl) (fun K hK => ?_) AllReadyH.nil
            go_simp
            (go_at_call 13; (with_reducible refine (hhs _ (And.right (by assumption))).mono ?_); rintro e w9 ⟨rfl, hc9⟩; have hS9 := K36 _ (Ch.trans (And.right (by assumption)) hc9); (try dsimp only))
            try go_wp2_with fail
            refine hK.out _ _ ?_ (fun hHeld => ?_)
            · try dsimp only
              first | assumption | exact (by assumption) | fail
            clear hK K
            try simp only [Act.put, List.setIfInBounds_toArray, List.set_cons_zero, List.set_cons_succ]
            refine wpAnyH_ready (rs := [13]) (by kernel_rfl) (by simp) ?_
            refine AllReadyH.cons (by simp only [List.getElem?_toArray, List.getElem?_cons_zero, List.getElem?_cons_succ]; exact rfl) (fun K hK => ?_) AllReadyH.nil
            go_simp
            (go_at_call 29; (with_reducible refine (hrh _ (And.right (by assumption))).mono ?_); rintro e w9 ⟨rfl, hc9⟩; have hS9 := K36 _ (Ch.trans (And.right (by assumption)) hc9); (try dsimp only))
            try go_wp2_with fail
            refine hK.out _ _ ?_ (fun hHeld => ?_)
            · try dsimp only
              first | assumption | exact (by assumption) | fail
            clear hK K
            try simp only [Act.put, List.setIfInBounds_toArray, List.set_cons_zero, List.set_cons_succ]
            refine wpAnyH_take (i := 14) (v := ?_) (by simp only [List.getElem?_toArray, List.getElem?_cons_zero, List.getElem?_cons_succ]; exact rfl) (by kernel_rfl) (by kernel_rfl) (by kernel_rfl) (by intro _ _ _ h; exact h) (Or.inl ⟨by rfl, ?_⟩) (by assumption) ?_
            rotate_left
            · intro w hSw
              (try dsimp only at hSw)
              go_simp
              try (with_reducible rfl)
            try simp only [Act.put, List.setIfInBounds_toArray, List.set_cons_zero, List.set_cons_succ]
            refine wpAnyH_take (i := 15) (v := ?_) (by simp only [List.getElem?_toArray, List.getElem?_cons_zero, List.getElem?_cons_succ]; exact rfl) (by kernel_rfl) (by kernel_rfl) (by kernel_rfl) (by intro _ _ _ h; exact h) (Or.inl ⟨by rfl, ?_⟩) (by assumption) ?_
            rotate_left
            · intro w hSw
              (try dsimp only at hSw)
              go_simp
              try (with_reducible rfl)
            try simp only [Act.put, List.setIfInBounds_toArray, List.set_cons_zero, List.set_cons_succ]
            refine wpAnyH_take (i := 16) (v := ?_) (by simp only [List.getElem?_toArray, List.getElem?_cons_zero, List.getElem?_cons_succ]; exact rfl) (by kernel_rfl) (by kernel_rfl) (by kernel_rfl) (by intro _ _ _ h; exact h) (Or.inl ⟨by rfl, ?_⟩) (by assumption) ?_
            rotate_left
            · intro w hSw
              (try dsimp only at hSw)
              go_simp
              try (with_reducible rfl)
            try simp only [Act.put, List.setIfInBounds_toArray, List.set_cons_zero, List.set_cons_succ]
            refine wpAnyH_done (by kernel_rfl) ?_ _
            try go_wp2_with fail
            go_ret
            exact ⟨rfl, (toN _ HG0.out).trans (hd3.trans hS9.2)⟩
end Go.Proofs.YtpldogmamifdpaaDoor

/- The reference of ops: Put. -/
import Derived.Test.YtlmaflhfedbmdaaRef21
import Derived.Test.YtlmaflhfedbmdaaConf2
set_option linter.unusedVariables false
set_option linter.unusedSimpArgs false
namespace Go.Proofs.Ytlmaflhfedbmdaa
open Go Go.RowKit

theorem cell_new1 (w : World) (x : Value) (T : TypeId) : (w.alloc (.cells #[x] T)).cell? ⟨w.heap.size, 0, none⟩ = some x := by simp
theorem cell_new1d (w : World) (x : Value) (T : TypeId) : (w.alloc (.cells #[x] T)).drew.cell? ⟨w.heap.size, 0, none⟩ = some x := by
  show (w.alloc (.cells #[x] T)).cell? ⟨w.heap.size, 0, none⟩ = some x
  simp

theorem conv_one (w : World) (g : Nat) (x : Int) (hx : 0 ≤ x ∧ x ≤ 255) (h : w.cell? ⟨g, 0, none⟩ = some (.int .u8 x)) : (convert 47 9 (.slice (some ⟨g, 0, none⟩) 1 1)).run Try.prog w = .ok (str [x]) w := by
  refine run_convert_bytes_arg _ 47 5 Try.underlying47 underU8 g 0 1 1 [x] rfl (fun i hi => ?_) _ Try.underlying9
  obtain rfl : i = 0 := by omega
  simp only [Nat.zero_add]
  rw [h]
  rfl

theorem opBytes_str (s : List Int) (o : OpV) : strOfNums s ++ strOfNums [o.kind] ++ strOfNums (leOf 8 o.a) ++ strOfNums (leOf 8 o.b) ++ strOfNums (leOf 8 o.c) = strOfNums (s ++ opBytes o) := by
  rw [str_append, str_append, str_append, str_append]
  simp [opBytes]

set_option maxRecDepth 100000 in
set_option maxHeartbeats 4000000 in
theorem ref21_Put (F : Nat → Prop) (w : World) (a : Option Addr) (c : Nat) (l : List OpV) (h : SlR opRp F w a c l) (hl : l.length ≤ 1000) :
    Calls Try.prog 22 #[.slice a l.length c] w fun e w' => e = .returned (.tuple #[str (putL l), .int .i64 (putE l)]) ∧ Ch No w w' := by
  go_enter Try.func22, Try.ntmps22
  go_wp2_with fail
  go_loopw [4, 5] (fun s i wr => ∃ k : Nat, k ≤ l.length ∧ i = .int .i64 k ∧ s = str ((l.take k).flatMap opBytes) ∧ opsOk (l.take k) = true ∧ Ch No w wr) (fun _ i _ => l.length - (intOf i).toNat)
  case atStart => exact ⟨0, by omega, rfl, rfl, rfl, Ch.refl _ _⟩
  case round =>
    obtain ⟨k, hk, rfl, rfl, hok, hc⟩ := hrel
    have HOK := Lib.hid hok; clear hok
    by_cases hlt : k < l.length
    · obtain ⟨b, off, rfl, _, hbl, c1, c2, c3, c4, hwf⟩ := (h.ch0 hc).op_at k hlt
      obtain ⟨x, hx⟩ : ∃ x, x = l[k] := ⟨_, rfl⟩
      rw [← hx] at c1 c2 c3 c4 hwf
      have HX := Lib.hid hx; clear hx
      by_cases hkd : 0 ≤ x.kind ∧ x.kind ≤ 255
      · have b1 : decide (x.kind < 0) = false := decide_eq_false (by omega)
        have b2 : decide (x.kind > 255) = false := decide_eq_false (by omega)
        go_wp2_with fail
        have hS : ∀ w', Ch No wr w' → (w'.cell? ⟨b, off + k * 4, none⟩ = some (.int .i64 x.kind) ∧ w'.cell? ⟨b, off + k * 4 + 1, none⟩ = some (.int .u64 x.a) ∧ w'.cell? ⟨b, off + k * 4 + 2, none⟩ = some (.int .u64 x.b) ∧ w'.cell? ⟨b, off + k * 4 + 3, none⟩ = some (.int .u64 x.c)) ∧ Ch No wr w' :=
          fun w' h' => ⟨⟨h'.cell c1 (fun q => q), h'.cell c2 (fun q => q), h'.cell c3 (fun q => q), h'.cell c4 (fun q => q)⟩, h'⟩
        have hH := hS _ (Ch.refl No wr).drew
        have nA : ∀ w', Calls Try.prog 42 #[.int .u64 x.a] w' fun e w'' => e = .returned (str (leOf 8 x.a)) ∧ Ch No w' w'' := fun w' => ref21_number _ w' hwf.2.1
        have nB : ∀ w', Calls Try.prog 42 #[.int .u64 x.b] w' fun e w'' => e = .returned (str (leOf 8 x.b)) ∧ Ch No w' w'' := fun w' => ref21_number _ w' hwf.2.2.1
        have nC : ∀ w', Calls Try.prog 42 #[.int .u64 x.c] w' fun e w'' => e = .returned (str (leOf 8 x.c)) ∧ Ch No w' w'' := fun w' => ref21_number _ w' hwf.2.2.2
        have hcv : ∀ (w' : World) (g : Nat), w'.cell? ⟨g, 0, none⟩ = some (.int .u8 x.kind) → (convert 47 9 (.slice (some ⟨g, 0, none⟩) 1 1)).run Try.prog w' = .ok (str [x.kind]) w' := fun w' g hg => conv_one w' g x.kind hkd hg
        have W8 : IntKind.u8.wrap x.kind = x.kind := by rw [show IntKind.u8.wrap x.kind = x.kind % 256 by simp [IntKind.wrap, IntKind.bits, IntKind.signed]]; omega
        have z1 : (strOfNums [x.kind]).size ≤ 1 := by rw [strOfNums_size]; exact Nat.le_refl _
        have z2 : (strOfNums (leOf 8 x.a)).size ≤ 8 := by rw [strOfNums_size, leOf_length]; omega
        have z3 : (strOfNums (leOf 8 x.b)).size ≤ 8 := by rw [strOfNums_size, leOf_length]; omega
        have z4 : (strOfNums (leOf 8 x.c)).size ≤ 8 := by rw [strOfNums_size, leOf_length]; omega
        have z0 : (strOfNums ((l.take k).flatMap opBytes)).size ≤ 25000 := by rw [strOfNums_size, flat_length, List.length_take]; omega
        obtain ⟨sA, hsA⟩ : ∃ z, z = strOfNums (leOf 8 x.a) := ⟨_, rfl⟩
        obtain ⟨sB, hsB⟩ : ∃ z, z = strOfNums (leOf 8 x.b) := ⟨_, rfl⟩
        obtain ⟨sC, hsC⟩ : ∃ z, z = strOfNums (leOf 8 x.c) := ⟨_, rfl⟩
        obtain ⟨sK, hsK⟩ : ∃ z, z = strOfNums [x.kind] := ⟨_, rfl⟩
        obtain ⟨sS, hsS⟩ : ∃ z, z = strOfNums ((l.take k).flatMap opBytes) := ⟨_, rfl⟩
        unfold str at nA nB nC hcv ⊢
        rw [← hsA] at nA z2
        rw [← hsB] at nB z3
        rw [← hsC] at nC z4
        simp only [← hsK] at hcv z1
        rw [← hsS] at z0
        simp only [← hsS]
        have l1 : ¬ ((9223372036854775807 : Int) < (sS.size : Int) + (sK.size : Int)) := by omega
        have l2 : ¬ ((9223372036854775807 : Int) < (sS.size : Int) + (sK.size : Int) + (sA.size : Int)) := by omega
        have l3 : ¬ ((9223372036854775807 : Int) < (sS.size : Int) + (sK.size : Int) + (sA.size : Int) + (sB.size : Int)) := by omega
        have l4 : ¬ ((9223372036854775807 : Int) < (sS.size : Int) + (sK.size : Int) + (sA.size : Int) + (sB.size : Int) + (sC.size : Int)) := by omega
        have HA := Lib.hid hsA; have HB := Lib.hid hsB; have HC := Lib.hid hsC; have HK := Lib.hid hsK; have HS := Lib.hid hsS
        clear hsA hsB hsC hsK hsS h
        refine wp_region_conf (fun i u w' => if i = 7 then ∃ g, u = .slice (some ⟨g, 0, none⟩) 1 1 ∧ w'.cell? ⟨g, 0, none⟩ = some (.int .u8 x.kind) else u = ([.string sS, .slice (some ⟨b, off, none⟩) l.length c, .int .i64 k, .pointer (some ⟨b, off + k * 4, none⟩), .pointer (some ⟨b, off + k * 4, none⟩), .int .i64 x.kind, .int .u8 x.kind, undef, .string sK, .string (sS ++ sK), .slice (some ⟨b, off, none⟩) l.length c, .int .i64 k, .pointer (some ⟨b, off + k * 4, none⟩), .pointer (some ⟨b, off + k * 4 + 1, none⟩), .int .u64 x.a, .string sA, .string (sS ++ sK ++ sA), .slice (some ⟨b, off, none⟩) l.length c, .int .i64 k, .pointer (some ⟨b, off + k * 4, none⟩), .pointer (some ⟨b, off + k * 4 + 2, none⟩), .int .u64 x.b, .string sB, .string (sS ++ sK ++ sA ++ sB), .slice (some ⟨b, off, none⟩) l.length c, .int .i64 k, .pointer (some ⟨b, off + k * 4, none⟩), .pointer (some ⟨b, off + k * 4 + 3, none⟩), .int .u64 x.c, .string sC, .string (sS ++ sK ++ sA ++ sB ++ sC), .string (sS ++ sK ++ sA ++ sB ++ sC)] : List Value).getD i undef) (fun w' => Ch No wr w') (fun w' w'' => Ch No w' w'') (by kernel_rfl) (by kernel_rfl) (by kernel_rfl) (by kernel_rfl) (by kernel_rfl) ?hV (Ch.refl No wr).drew ?hok ?hfin
        case hV =>
          intro i u w' w'' hu hs
          by_cases h7 : i = 7
          · rw [if_pos h7] at hu ⊢
            obtain ⟨g, e, hg⟩ := hu
            exact ⟨g, e, hs.cell hg (fun q => q)⟩
          · rw [if_neg h7] at hu ⊢
            exact hu
        case hok =>
          intro i hi
          have hi32 : i < 32 := hi
          have hall : i = 0 ∨ i = 1 ∨ i = 2 ∨ i = 3 ∨ i = 4 ∨ i = 5 ∨ i = 6 ∨ i = 7 ∨ i = 8 ∨ i = 9 ∨ i = 10 ∨ i = 11 ∨ i = 12 ∨ i = 13 ∨ i = 14 ∨ i = 15 ∨ i = 16 ∨ i = 17 ∨ i = 18 ∨ i = 19 ∨ i = 20 ∨ i = 21 ∨ i = 22 ∨ i = 23 ∨ i = 24 ∨ i = 25 ∨ i = 26 ∨ i = 27 ∨ i = 28 ∨ i = 29 ∨ i = 30 ∨ i = 31 := by omega
          rcases hall with rfl | rfl | rfl | rfl | rfl | rfl | rfl | rfl | rfl | rfl | rfl | rfl | rfl | rfl | rfl | rfl | rfl | rfl | rfl | rfl | rfl | rfl | rfl | rfl | rfl | rfl | rfl | rfl | rfl | rfl | rfl | rfl
          · refine opok_val (by kernel_rfl) (by kernel_rfl) (by rfl) ?_
            intro ρ w' hput hold hcon hR
            have E4 : ρ (.tmp 4) = .string sS := hold 4 (by kernel_rfl)
            exact ⟨.string sS, w', by simp only [execOp, Option.map, E4]; go_simp, rfl, Ch.refl _ _, hR⟩
          · refine opok_val (by kernel_rfl) (by kernel_rfl) (by rfl) ?_
            intro ρ w' hput hold hcon hR
            have E0 : ρ (.tmp 0) = .slice (some ⟨b, off, none⟩) l.length c := hold 0 (by kernel_rfl)
            exact ⟨.slice (some ⟨b, off, none⟩) l.length c, w', by simp only [execOp, Option.map, E0]; go_simp, rfl, Ch.refl _ _, hR⟩
          · refine opok_val (by kernel_rfl) (by kernel_rfl) (by rfl) ?_
            intro ρ w' hput hold hcon hR
            have E5 : ρ (.tmp 5) = .int .i64 k := hold 5 (by kernel_rfl)
            exact ⟨.int .i64 k, w', by simp only [execOp, Option.map, E5]; go_simp, rfl, Ch.refl _ _, hR⟩
          · refine opok_val (by kernel_rfl) (by kernel_rfl) (by rfl) ?_
            intro ρ w' hput hold hcon hR
            have E27 : ρ (.tmp 27) = .slice (some ⟨b, off, none⟩) l.length c := hput 1 27 (by kernel_rfl) (by kernel_rfl) (by kernel_rfl)
            have E28 : ρ (.tmp 28) = .int .i64 k := hput 2 28 (by kernel_rfl) (by kernel_rfl) (by kernel_rfl)
            exact ⟨.pointer (some ⟨b, off + k * 4, none⟩), w', by simp only [execOp, Option.map, E27, E28]; go_simp, rfl, Ch.refl _ _, hR⟩
          · refine opok_val (by kernel_rfl) (by kernel_rfl) (by rfl) ?_
            intro ρ w' hput hold hcon hR
            have E29 : ρ (.tmp 29) = .pointer (some ⟨b, off + k * 4, none⟩) := hput 3 29 (by kernel_rfl) (by kernel_rfl) (by kernel_rfl)
            exact ⟨.pointer (some ⟨b, off + k * 4, none⟩), w', by simp only [execOp, Option.map, E29]; go_simp, rfl, Ch.refl _ _, hR⟩
          · refine opok_val (by kernel_rfl) (by kernel_rfl) (by rfl) ?_
            intro ρ w' hput hold hcon hR
            have E30 : ρ (.tmp 30) = .pointer (some ⟨b, off + k * 4, none⟩) := hput 4 30 (by kernel_rfl) (by kernel_rfl) (by kernel_rfl)
            have c9 := hR.cell c1 (fun q => q)
            exact ⟨.int .i64 x.kind, w', by simp only [execOp, Option.map, E30]; go_simp, rfl, Ch.refl _ _, hR⟩
          · refine opok_val (by kernel_rfl) (by kernel_rfl) (by rfl) ?_
            intro ρ w' hput hold hcon hR
            have E31 : ρ (.tmp 31) = .int .i64 x.kind := hput 5 31 (by kernel_rfl) (by kernel_rfl) (by kernel_rfl)
            exact ⟨.int .u8 x.kind, w', by simp only [execOp, Option.map, E31]; go_simp, rfl, Ch.refl _ _, hR⟩
          · refine opok_val (by kernel_rfl) (by kernel_rfl) (by rfl) ?_
            intro ρ w' hput hold hcon hR
            have E32 : ρ (.tmp 32) = .int .u8 x.kind := hput 6 32 (by kernel_rfl) (by kernel_rfl) (by kernel_rfl)
            have hv7 : ∃ g, (.slice (some ⟨w'.heap.size, 0, none⟩) 1 1 : Value) = .slice (some ⟨g, 0, none⟩) 1 1 ∧ (w'.alloc (.cells #[.int .u8 x.kind] 5)).cell? ⟨g, 0, none⟩ = some (.int .u8 x.kind) := ⟨_, rfl, cell_new1 _ _ _⟩
            exact ⟨.slice (some ⟨w'.heap.size, 0, none⟩) 1 1, w'.alloc (.cells #[.int .u8 x.kind] 5), by simp only [execOp, E32]; go_simp, hv7, (Ch.refl No w').alloc _, hR.alloc _⟩
          · refine opok_val (by kernel_rfl) (by kernel_rfl) (by rfl) ?_
            intro ρ w' hput hold hcon hR
            have h33 : ∃ g, ρ (.tmp 33) = .slice (some ⟨g, 0, none⟩) 1 1 ∧ w'.cell? ⟨g, 0, none⟩ = some (.int .u8 x.kind) := hput 7 33 (by kernel_rfl) (by kernel_rfl) (by kernel_rfl)
            obtain ⟨g, E33, hg⟩ := h33
            exact ⟨.string sK, w', exec_convert (x := .tmp 33) rfl (by rw [E33]; exact hcv w' g hg), rfl, Ch.refl _ _, hR⟩
          · refine opok_val (by kernel_rfl) (by kernel_rfl) (by rfl) ?_
            intro ρ w' hput hold hcon hR
            have E26 : ρ (.tmp 26) = .string sS := hput 0 26 (by kernel_rfl) (by kernel_rfl) (by kernel_rfl)
            have E34 : ρ (.tmp 34) = .string sK := hput 8 34 (by kernel_rfl) (by kernel_rfl) (by kernel_rfl)
            exact ⟨.string (sS ++ sK), w', by simp only [execOp, Option.map, E26, E34]; go_simp; omega, rfl, Ch.refl _ _, hR⟩
          · refine opok_val (by kernel_rfl) (by kernel_rfl) (by rfl) ?_
            intro ρ w' hput hold hcon hR
            have E0 : ρ (.tmp 0) = .slice (some ⟨b, off, none⟩) l.length c := hold 0 (by kernel_rfl)
            exact ⟨.slice (some ⟨b, off, none⟩) l.length c, w', by simp only [execOp, Option.map, E0]; go_simp, rfl, Ch.refl _ _, hR⟩
          · refine opok_val (by kernel_rfl) (by kernel_rfl) (by rfl) ?_
            intro ρ w' hput hold hcon hR
            have E5 : ρ (.tmp 5) = .int .i64 k := hold 5 (by kernel_rfl)
            exact ⟨.int .i64 k, w', by simp only [execOp, Option.map, E5]; go_simp, rfl, Ch.refl _ _, hR⟩
          · refine opok_val (by kernel_rfl) (by kernel_rfl) (by rfl) ?_
            intro ρ w' hput hold hcon hR
            have E36 : ρ (.tmp 36) = .slice (some ⟨b, off, none⟩) l.length c := hput 10 36 (by kernel_rfl) (by kernel_rfl) (by kernel_rfl)
            have E37 : ρ (.tmp 37) = .int .i64 k := hput 11 37 (by kernel_rfl) (by kernel_rfl) (by kernel_rfl)
            exact ⟨.pointer (some ⟨b, off + k * 4, none⟩), w', by simp only [execOp, Option.map, E36, E37]; go_simp, rfl, Ch.refl _ _, hR⟩
          · refine opok_val (by kernel_rfl) (by kernel_rfl) (by rfl) ?_
            intro ρ w' hput hold hcon hR
            have E38 : ρ (.tmp 38) = .pointer (some ⟨b, off + k * 4, none⟩) := hput 12 38 (by kernel_rfl) (by kernel_rfl) (by kernel_rfl)
            exact ⟨.pointer (some ⟨b, off + k * 4 + 1, none⟩), w', by simp only [execOp, Option.map, E38]; go_simp, rfl, Ch.refl _ _, hR⟩
          · refine opok_val (by kernel_rfl) (by kernel_rfl) (by rfl) ?_
            intro ρ w' hput hold hcon hR
            have E39 : ρ (.tmp 39) = .pointer (some ⟨b, off + k * 4 + 1, none⟩) := hput 13 39 (by kernel_rfl) (by kernel_rfl) (by kernel_rfl)
            have c9 := hR.cell c2 (fun q => q)
            exact ⟨.int .u64 x.a, w', by simp only [execOp, Option.map, E39]; go_simp, rfl, Ch.refl _ _, hR⟩
          · refine opok_call (by kernel_rfl) (by kernel_rfl) (by rfl) ?_
            intro ρ w' hput hold hcon hR
            have E40 : ρ (.tmp 40) = .int .u64 x.a := hput 14 40 (by kernel_rfl) (by kernel_rfl) (by kernel_rfl)
            exact ⟨42, #[.int .u64 x.a], by simp only [execOp, E40]; go_simp, (nA w').mono fun e w'' he => ⟨_, he.1, rfl, he.2, hR.trans he.2⟩⟩
          · refine opok_val (by kernel_rfl) (by kernel_rfl) (by rfl) ?_
            intro ρ w' hput hold hcon hR
            have E35 : ρ (.tmp 35) = .string (sS ++ sK) := hput 9 35 (by kernel_rfl) (by kernel_rfl) (by kernel_rfl)
            have E41 : ρ (.tmp 41) = .string sA := hput 15 41 (by kernel_rfl) (by kernel_rfl) (by kernel_rfl)
            exact ⟨.string (sS ++ sK ++ sA), w', by simp only [execOp, Option.map, E35, E41]; go_simp; omega, rfl, Ch.refl _ _, hR⟩
          · refine opok_val (by kernel_rfl) (by kernel_rfl) (by rfl) ?_
            intro ρ w' hput hold hcon hR
            have E0 : ρ (.tmp 0) = .slice (some ⟨b, off, none⟩) l.length c := hold 0 (by kernel_rfl)
            exact ⟨.slice (some ⟨b, off, none⟩) l.length c, w', by simp only [execOp, Option.map, E0]; go_simp, rfl, Ch.refl _ _, hR⟩
          · refine opok_val (by kernel_rfl) (by kernel_rfl) (by rfl) ?_
            intro ρ w' hput hold hcon hR
            have E5 : ρ (.tmp 5) = .int .i64 k := hold 5 (by kernel_rfl)
            exact ⟨.int .i64 k, w', by simp only [execOp, Option.map, E5]; go_simp, rfl, Ch.refl _ _, hR⟩
          · refine opok_val (by kernel_rfl) (by kernel_rfl) (by rfl) ?_
            intro ρ w' hput hold hcon hR
            have E43 : ρ (.tmp 43) = .slice (some ⟨b, off, none⟩) l.length c := hput 17 43 (by kernel_rfl) (by kernel_rfl) (by kernel_rfl)
            have E44 : ρ (.tmp 44) = .int .i64 k := hput 18 44 (by kernel_rfl) (by kernel_rfl) (by kernel_rfl)
            exact ⟨.pointer (some ⟨b, off + k * 4, none⟩), w', by simp only [execOp, Option.map, E43, E44]; go_simp, rfl, Ch.refl _ _, hR⟩
          · refine opok_val (by kernel_rfl) (by kernel_rfl) (by rfl) ?_
            intro ρ w' hput hold hcon hR
            have E45 : ρ (.tmp 45) = .pointer (some ⟨b, off + k * 4, none⟩) := hput 19 45 (by kernel_rfl) (by kernel_rfl) (by kernel_rfl)
            exact ⟨.pointer (some ⟨b, off + k * 4 + 2, none⟩), w', by simp only [execOp, Option.map, E45]; go_simp, rfl, Ch.refl _ _, hR⟩
          · refine opok_val (by kernel_rfl) (by kernel_rfl) (by rfl) ?_
            intro ρ w' hput hold hcon hR
            have E46 : ρ (.tmp 46) = .pointer (some ⟨b, off + k * 4 + 2, none⟩) := hput 20 46 (by kernel_rfl) (by kernel_rfl) (by kernel_rfl)
            have c9 := hR.cell c3 (fun q => q)
            exact ⟨.int .u64 x.b, w', by simp only [execOp, Option.map, E46]; go_simp, rfl, Ch.refl _ _, hR⟩
          · refine opok_call (by kernel_rfl) (by kernel_rfl) (by rfl) ?_
            intro ρ w' hput hold hcon hR
            have E47 : ρ (.tmp 47) = .int .u64 x.b := hput 21 47 (by kernel_rfl) (by kernel_rfl) (by kernel_rfl)
            exact ⟨42, #[.int .u64 x.b], by simp only [execOp, E47]; go_simp, (nB w').mono fun e w'' he => ⟨_, he.1, rfl, he.2, hR.trans he.2⟩⟩
          · refine opok_val (by kernel_rfl) (by kernel_rfl) (by rfl) ?_
            intro ρ w' hput hold hcon hR
            have E42 : ρ (.tmp 42) = .string (sS ++ sK ++ sA) := hput 16 42 (by kernel_rfl) (by kernel_rfl) (by kernel_rfl)
            have E48 : ρ (.tmp 48) = .string sB := hput 22 48 (by kernel_rfl) (by kernel_rfl) (by kernel_rfl)
            exact ⟨.string (sS ++ sK ++ sA ++ sB), w', by simp only [execOp, Option.map, E42, E48]; go_simp; omega, rfl, Ch.refl _ _, hR⟩
          · refine opok_val (by kernel_rfl) (by kernel_rfl) (by rfl) ?_
            intro ρ w' hput hold hcon hR
            have E0 : ρ (.tmp 0) = .slice (some ⟨b, off, none⟩) l.length c := hold 0 (by kernel_rfl)
            exact ⟨.slice (some ⟨b, off, none⟩) l.length c, w', by simp only [execOp, Option.map, E0]; go_simp, rfl, Ch.refl _ _, hR⟩
          · refine opok_val (by kernel_rfl) (by kernel_rfl) (by rfl) ?_
            intro ρ w' hput hold hcon hR
            have E5 : ρ (.tmp 5) = .int .i64 k := hold 5 (by kernel_rfl)
            exact ⟨.int .i64 k, w', by simp only [execOp, Option.map, E5]; go_simp, rfl, Ch.refl _ _, hR⟩
          · refine opok_val (by kernel_rfl) (by kernel_rfl) (by rfl) ?_
            intro ρ w' hput hold hcon hR
            have E50 : ρ (.tmp 50) = .slice (some ⟨b, off, none⟩) l.length c := hput 24 50 (by kernel_rfl) (by kernel_rfl) (by kernel_rfl)
            have E51 : ρ (.tmp 51) = .int .i64 k := hput 25 51 (by kernel_rfl) (by kernel_rfl) (by kernel_rfl)
            exact ⟨.pointer (some ⟨b, off + k * 4, none⟩), w', by simp only [execOp, Option.map, E50, E51]; go_simp, rfl, Ch.refl _ _, hR⟩
          · refine opok_val (by kernel_rfl) (by kernel_rfl) (by rfl) ?_
            intro ρ w' hput hold hcon hR
            have E52 : ρ (.tmp 52) = .pointer (some ⟨b, off + k * 4, none⟩) := hput 26 52 (by kernel_rfl) (by kernel_rfl) (by kernel_rfl)
            exact ⟨.pointer (some ⟨b, off + k * 4 + 3, none⟩), w', by simp only [execOp, Option.map, E52]; go_simp, rfl, Ch.refl _ _, hR⟩
          · refine opok_val (by kernel_rfl) (by kernel_rfl) (by rfl) ?_
            intro ρ w' hput hold hcon hR
            have E53 : ρ (.tmp 53) = .pointer (some ⟨b, off + k * 4 + 3, none⟩) := hput 27 53 (by kernel_rfl) (by kernel_rfl) (by kernel_rfl)
            have c9 := hR.cell c4 (fun q => q)
            exact ⟨.int .u64 x.c, w', by simp only [execOp, Option.map, E53]; go_simp, rfl, Ch.refl _ _, hR⟩
          · refine opok_call (by kernel_rfl) (by kernel_rfl) (by rfl) ?_
            intro ρ w' hput hold hcon hR
            have E54 : ρ (.tmp 54) = .int .u64 x.c := hput 28 54 (by kernel_rfl) (by kernel_rfl) (by kernel_rfl)
            exact ⟨42, #[.int .u64 x.c], by simp only [execOp, E54]; go_simp, (nC w').mono fun e w'' he => ⟨_, he.1, rfl, he.2, hR.trans he.2⟩⟩
          · refine opok_val (by kernel_rfl) (by kernel_rfl) (by rfl) ?_
            intro ρ w' hput hold hcon hR
            have E49 : ρ (.tmp 49) = .string (sS ++ sK ++ sA ++ sB) := hput 23 49 (by kernel_rfl) (by kernel_rfl) (by kernel_rfl)
            have E55 : ρ (.tmp 55) = .string sC := hput 29 55 (by kernel_rfl) (by kernel_rfl) (by kernel_rfl)
            exact ⟨.string (sS ++ sK ++ sA ++ sB ++ sC), w', by simp only [execOp, Option.map, E49, E55]; go_simp; omega, rfl, Ch.refl _ _, hR⟩
          · refine opok_val (by kernel_rfl) (by kernel_rfl) (by rfl) ?_
            intro ρ w' hput hold hcon hR
            have E56 : ρ (.tmp 56) = .string (sS ++ sK ++ sA ++ sB ++ sC) := hput 30 56 (by kernel_rfl) (by kernel_rfl) (by kernel_rfl)
            exact ⟨.string (sS ++ sK ++ sA ++ sB ++ sC), w', by simp only [execOp, Option.map, E56]; go_simp, rfl, Ch.refl _ _, hR⟩
        case hfin =>
          intro v w' hR hv
          refine hfin_of (by kernel_rfl) (by kernel_rfl) 58 rfl rfl ?_
          intro f hput hold
          have e4 : f 4 = .string (sS ++ sK ++ sA ++ sB ++ sC) := (hput 31 4 (by kernel_rfl)).trans (hv 31 (by decide))
          have e0 : f 0 = .slice (some ⟨b, off, none⟩) l.length c := hold 0 (by kernel_rfl)
          have e1 : f 1 = undef := hold 1 (by kernel_rfl)
          have e5 : f 5 = .int .i64 k := hold 5 (by kernel_rfl)
          have e57 : f 57 = undef := hold 57 (by kernel_rfl)
          change Exit.inBlock 1 (Exit.then _ _) Exit.normal { tmps := #[f 0, f 1, f 2, f 3, f 4, f 5, f 6, f 7, f 8, f 9, f 10, f 11, f 12, f 13, f 14, f 15, f 16, f 17, f 18, f 19, f 20, f 21, f 22, f 23, f 24, f 25, f 26, f 27, f 28, f 29, f 30, f 31, f 32, f 33, f 34, f 35, f 36, f 37, f 38, f 39, f 40, f 41, f 42, f 43, f 44, f 45, f 46, f 47, f 48, f 49, f 50, f 51, f 52, f 53, f 54, f 55, f 56, f 57], defers := [] } w'
          rw [e4, e0, e1, e5, e57]
          generalize f 2 = y2, f 3 = y3, f 6 = y6, f 7 = y7, f 8 = y8, f 9 = y9, f 10 = y10, f 11 = y11, f 12 = y12, f 13 = y13, f 14 = y14, f 15 = y15, f 16 = y16, f 17 = y17, f 18 = y18, f 19 = y19, f 20 = y20, f 21 = y21, f 22 = y22, f 23 = y23, f 24 = y24, f 25 = y25, f 26 = y26, f 27 = y27, f 28 = y28, f 29 = y29, f 30 = y30, f 31 = y31, f 32 = y32, f 33 = y33, f 34 = y34, f 35 = y35, f 36 = y36, f 37 = y37, f 38 = y38, f 39 = y39, f 40 = y40, f 41 = y41, f 42 = y42, f 43 = y43, f 44 = y44, f 45 = y45, f 46 = y46, f 47 = y47, f 48 = y48, f 49 = y49, f 50 = y50, f 51 = y51, f 52 = y52, f 53 = y53, f 54 = y54, f 55 = y55, f 56 = y56
          have hW9 := hc.trans hR
          go_wp2_with fail
          go_roundw
          case rel =>
            refine ⟨k + 1, by omega, by go_num, ?_, opsOk_succ hlt HOK.out (by rw [← HX.out]; exact hkd), hW9⟩
            rw [List.take_succ_eq_append_getElem hlt, List.flatMap_append, List.flatMap_singleton, ← HX.out, HA.out, HB.out, HC.out, HK.out, HS.out, opBytes_str]
          case measure => exact meas_lt (by omega)
      · have HB := Lib.hid hkd
        by_cases h0 : x.kind < 0
        · have b1 : decide (x.kind < 0) = true := decide_eq_true h0
          go_wp2_with fail
          go_ret2
          have := putL_bad (opsOk_bad hlt (by rw [← HX.out]; exact HB.out))
          exact ⟨by rw [this.1, this.2]; rfl, hc⟩
        · have b1 : decide (x.kind < 0) = false := decide_eq_false h0
          have b2 : decide (x.kind > 255) = true := decide_eq_true (by omega)
          go_wp2_with fail
          go_ret2
          have := putL_bad (opsOk_bad hlt (by rw [← HX.out]; exact HB.out))
          exact ⟨by rw [this.1, this.2]; rfl, hc⟩
    · obtain rfl : k = l.length := by omega
      have h2 := HOK.out
      rw [List.take_length] at h2
      have := putL_ok h2
      go_wp2_with fail
      go_ret2
      refine ⟨?_, hc⟩
      rw [this.1, this.2]
      first | rfl | (simp only [List.take_length]; rfl) | simp
end Go.Proofs.Ytlmaflhfedbmdaa

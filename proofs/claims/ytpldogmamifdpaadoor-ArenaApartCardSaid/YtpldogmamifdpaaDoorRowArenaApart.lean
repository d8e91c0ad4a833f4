/- For every input the call of ArenaApart returns true, and what was there reads as it did; the variable nowhere as the program's text lays it. -/
import Derived.Test.YtpldogmamifdpaaDoorCards
import Derived.Test.YtpldogmamifdpaaDoorNowhere
import Derived.Test.YtpldogmamifdpaaDoorLaw11P
set_option linter.unusedVariables false
set_option linter.unusedSimpArgs false
namespace Go.Proofs.YtpldogmamifdpaaDoor
open Go Go.RowKit Go.ChangeShapes Go.WideShapes

theorem opens_act11 : Opens Tryd.prog 51 act11Rp :=
  (Opens.struct (e := prodRp (intRp .u8) (prodRp (intRp .i64) boolRp)) Tryd.underlying51 (by kernel_rfl)
    (OpensAt.cons (t := 5) (by kernel_rfl) (.int Tryd.underlying5 (by kernel_rfl)) (OpensAt.cons (t := 3) (by kernel_rfl) (.int Tryd.underlying3 (by kernel_rfl)) (OpensAt.last (t := 4) (by kernel_rfl) (.bool Tryd.underlying4 (by kernel_rfl)))))).imp rfl
    (by rintro w cs ⟨x, y, z⟩ ⟨c1, c2, rfl, ⟨rfl, h1⟩, ⟨c3, c4, rfl, ⟨rfl, h2⟩, ⟨rfl, h3⟩⟩⟩; exact ⟨⟨x, y, z⟩, rfl, h1, h2⟩)
theorem opens_acts11 : Opens Tryd.prog 47 (slRp act11Rp) := .slice Tryd.underlying47 (by kernel_rfl) opens_act11 (by decide)

set_option maxRecDepth 100000 in
theorem arenaApart_lifted (os : Os) (started : os.Started) (H : Type) (enc : TypeId × Value → H) :
    ReturnsInHanded {} Tryd.checked os 5 .any (fun w args => (Rows.arenaApartSpec.pre enc Tryd.prog Tryd.f5 [] false w args ∧ laidMetH Tryd.prog laidN w) ∧ sizedMet enc Tryd.prog Tryd.f5 (OpenSpec.ofChange Rows.arenaApartSpec) false w args) (Rows.arenaApartSpec.post enc Tryd.prog Tryd.f5 false true false false) := by
  refine law_row_laid (C := Tryd.checked) (tb := 4) (X := fun w _ => laidMetH Tryd.prog laidN w) (fun _ _ _ hh h => h.of_heap hh) own started (by kernel_rfl) Tryd.func5
    (ChangeSpec.witness_shaped (enc := enc) (C := Tryd.checked) (os := os) (X := fun w _ => laidMetH Tryd.prog laidN w) false (World.doorLaid Tryd.prog 400 os) #[.int .u8 0, .slice none 0 0] 8 rfl (World.shaped_of_RefB (by kernel_rfl) (by kernel_rfl)) (by kernel_rfl) (by kernel_rfl) (by kernel_rfl) (door_met os _))
    laidOut (by kernel_rfl) rfl Tryd.underlying4 rfl (fun ds hd => by match ds, hd with | [_, _], _ => rfl) ?_
  intro W base args ds p hval hA hL
  have hN := nw_of_laid hL
  have hA' : DataW.TrodAll enc Tryd.prog W 0 (fun _ => true) true [5, 47] args.toList ds p := hA
  obtain ⟨v0, vs0, d0, ds0, p0, q0, hargs, rfl, rfl, h0, r0⟩ := trodAll_cons hA'
  obtain ⟨v1, vs1, d1, ds1, p1, q1, rfl, rfl, rfl, h1, r1⟩ := trodAll_cons r0
  obtain ⟨rfl, rfl, rfl⟩ := trodAll_nil r1
  obtain rfl : args = #[v0, v1] := by cases args; simp_all
  obtain ⟨n, e0, b_n⟩ := (Opens.int (P := Tryd.prog) Tryd.underlying5 (by kernel_rfl)).arg h0
  obtain rfl := one_int Tryd.underlying5 (hval 0 5 v0 rfl rfl) e0
  obtain ⟨l, a_l, c_l, e1, h_l⟩ := opens_acts11.arg h1
  obtain rfl := one_slice Tryd.underlying47 (hval 1 47 v1 rfl rfl) e1
  exact apart11 W n a_l c_l l h_l hN b_n (Nat.le_trans h_l.le h_l.max)

theorem arenaApart_holds : Rows.ArenaApartSaid :=
  OpenClaim.holds_of_wide 5 Tryd.f5 rfl rfl rfl rfl rfl rfl rfl ⟨rfl, rfl, rfl, rfl, rfl⟩ rfl rfl rfl rfl rfl (by kernel_rfl) Tryd.func5 (by kernel_rfl)
    (of_decide_eq_true (by kernel_rfl)) (by unfold Func.isWrapper; first | (rw [if_pos (by decide +kernel)]; kernel_rfl) | (rw [if_neg (by decide +kernel)]; exact ⟨rfl, rfl⟩))
    (fun os started H enc _ => arenaApart_lifted os started H enc)

theorem arenaApart_card : Rows.ArenaApartCardSaid :=
  Claim7.holds_tied_plain_at .later [] [.data] true _ false
    arenaApart_holds (fun _ h => by cases h) (by kernel_rfl) (fun _ h => by cases h) arenaApart_row_tie rfl ⟨rfl, rfl⟩ (by kernel_rfl) rfl
    (fun f fn hf hfn => by
      obtain rfl : f = 5 := Option.some.inj ((show Tryd.prog.funcNamed "kraal/kraallaw11.ArenaApart" = some 5 by kernel_rfl).symm.trans hf) |>.symm
      obtain rfl : fn = Tryd.f5 := (Option.some.inj (Tryd.func5.symm.trans hfn)).symm
      exact ⟨by kernel_rfl, fun j t ht => by
        have ht' : ([5, 47] : List TypeId).toArray[j]? = some t := ht
        have hm : t ∈ [5, 47] := by simpa using Array.mem_of_getElem? ht'
        have hall : ([5, 47].all fun u => !Tryd.prog.wantsStandIn u) = true := by kernel_rfl
        exact (show Tryd.prog.wantsStandIn t = false by simpa using List.all_eq_true.1 hall t hm)⟩)
    (by kernel_rfl)
end Go.Proofs.YtpldogmamifdpaaDoor

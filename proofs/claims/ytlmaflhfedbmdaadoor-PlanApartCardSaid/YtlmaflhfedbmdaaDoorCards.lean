/-
  DERIVED. GIVEN WITH THE SEED: THE CARDS: each row of YtlmaflhfedbmdaaDoorRows.lean that lists a variable, with what it lists TIED to the program's text (the seventh form; the later family's looks); each row that meets fmt, with fmt's text TOLD by the authors' own Lean function (tested against real Go, not proved from fmt's source: count such statements apart). THE CARD IS WHAT COUNTS. Prove the row's statement (the work); the ties are given (YtlmaflhfedbmdaaDoorTie.lean); close each card by the builder's one call (the guide's Derived/Test/ToyasCard.lean, 'card_holds'). Laid BY PROGRAM, IN A SANDBOX (cutbox-door.mjs). By AI agents, Wed Nov 11 2026. No macro, syntax, notation, axiom, sorry.
-/
import Derived.Test.YtlmaflhfedbmdaaDoorRows
import GoSem.ClaimSeven
namespace Go.Proofs.YtlmaflhfedbmdaaDoor
namespace Rows

/-- THE TIED CARD OF 'kraallaw10.PlanPlays'. -/
def planPlaysCard : Claim7 := { stood := { row := planPlaysRow, standIns := [], harness := (true, "913048fa6e47cecf8bd906b282ec91d6e22a53c6b3176679ce239555ad20d11d"), looks := false }, kinds := [], alts := [], laidByText := true, laidKinds := [.data], laidTests := true, laidLooks := .later }
def PlanPlaysCardSaid : Prop := Claim7.holds Tryd.pinned (.plain (OpenSpec.ofChange planPlaysSpec)) planPlaysCard

/-- THE TIED CARD OF 'kraallaw10.PlanPages'. -/
def planPagesCard : Claim7 := { stood := { row := planPagesRow, standIns := [], harness := (true, "913048fa6e47cecf8bd906b282ec91d6e22a53c6b3176679ce239555ad20d11d"), looks := false }, kinds := [], alts := [], laidByText := true, laidKinds := [.data], laidTests := true, laidLooks := .later }
def PlanPagesCardSaid : Prop := Claim7.holds Tryd.pinned (.plain (OpenSpec.ofChange planPagesSpec)) planPagesCard

/-- THE TIED CARD OF 'kraallaw10.PlanApart'. -/
def planApartCard : Claim7 := { stood := { row := planApartRow, standIns := [], harness := (true, "913048fa6e47cecf8bd906b282ec91d6e22a53c6b3176679ce239555ad20d11d"), looks := false }, kinds := [], alts := [], laidByText := true, laidKinds := [.data], laidTests := true, laidLooks := .later }
def PlanApartCardSaid : Prop := Claim7.holds Tryd.pinned (.plain (OpenSpec.ofChange planApartSpec)) planApartCard

/-- THE SECOND FORM's CARD OF 'kraallaw10.PlanPlays'. -/
def planPlaysUptoCard : Claim7 := { stood := { row := planPlaysUptoRow, standIns := [], harness := (true, "913048fa6e47cecf8bd906b282ec91d6e22a53c6b3176679ce239555ad20d11d"), looks := false }, kinds := [], alts := [], laidByText := true, laidKinds := [.data], laidTests := true, laidLooks := .later }
def PlanPlaysUptoCardSaid : Prop := Claim7.holds Tryd.pinned (.plain (OpenSpec.upto planPlaysSpec)) planPlaysUptoCard

/-- THE SECOND FORM's CARD OF 'kraallaw10.PlanPages'. -/
def planPagesUptoCard : Claim7 := { stood := { row := planPagesUptoRow, standIns := [], harness := (true, "913048fa6e47cecf8bd906b282ec91d6e22a53c6b3176679ce239555ad20d11d"), looks := false }, kinds := [], alts := [], laidByText := true, laidKinds := [.data], laidTests := true, laidLooks := .later }
def PlanPagesUptoCardSaid : Prop := Claim7.holds Tryd.pinned (.plain (OpenSpec.upto planPagesSpec)) planPagesUptoCard

/-- THE SECOND FORM's CARD OF 'kraallaw10.PlanApart'. -/
def planApartUptoCard : Claim7 := { stood := { row := planApartUptoRow, standIns := [], harness := (true, "913048fa6e47cecf8bd906b282ec91d6e22a53c6b3176679ce239555ad20d11d"), looks := false }, kinds := [], alts := [], laidByText := true, laidKinds := [.data], laidTests := true, laidLooks := .later }
def PlanApartUptoCardSaid : Prop := Claim7.holds Tryd.pinned (.plain (OpenSpec.upto planApartSpec)) planApartUptoCard
end Rows
end Go.Proofs.YtlmaflhfedbmdaaDoor

/-
  DERIVED. GIVEN WITH THE SEED: THE CARDS: each row of YtinjbonodlkafaaDoorRows.lean that lists a variable, with what it lists TIED to the program's text (the seventh form; the later family's looks); each row that meets fmt, with fmt's text TOLD by the authors' own Lean function (tested against real Go, not proved from fmt's source: count such statements apart). THE CARD IS WHAT COUNTS. Prove the row's statement (the work); the ties are given (YtinjbonodlkafaaDoorTie.lean); close each card by the builder's one call (the guide's Derived/Test/ToyasCard.lean, 'card_holds'). Laid BY PROGRAM, IN A SANDBOX (cutbox-door.mjs). By AI agents, Wed Nov 11 2026. No macro, syntax, notation, axiom, sorry.
-/
import Derived.Test.YtinjbonodlkafaaDoorRows
import GoSem.ClaimSeven
namespace Go.Proofs.YtinjbonodlkafaaDoor
namespace Rows

/-- THE TIED CARD OF 'kraallaw14.AnnotUp'. -/
def annotUpCard : Claim7 := { stood := { row := annotUpRow, standIns := [], harness := (true, "00324bf2ddcac32cb89b0a8c714d3994d9ea19c6e2869f2958b2acc40e01aa62"), looks := false }, kinds := [], alts := [], laidByText := true, laidKinds := [.data], laidTests := true, laidLooks := .later }
def AnnotUpCardSaid : Prop := Claim7.holds Tryd.pinned (.plain (OpenSpec.ofChange annotUpSpec)) annotUpCard

/-- THE TIED CARD OF 'kraallaw14.AnnotChecks'. -/
def annotChecksCard : Claim7 := { stood := { row := annotChecksRow, standIns := [], harness := (true, "00324bf2ddcac32cb89b0a8c714d3994d9ea19c6e2869f2958b2acc40e01aa62"), looks := false }, kinds := [], alts := [], laidByText := true, laidKinds := [.data], laidTests := true, laidLooks := .later }
def AnnotChecksCardSaid : Prop := Claim7.holds Tryd.pinned (.plain (OpenSpec.ofChange annotChecksSpec)) annotChecksCard

/-- THE TIED CARD OF 'kraallaw14.AnnotOutlived'. -/
def annotOutlivedCard : Claim7 := { stood := { row := annotOutlivedRow, standIns := [], harness := (true, "00324bf2ddcac32cb89b0a8c714d3994d9ea19c6e2869f2958b2acc40e01aa62"), looks := false }, kinds := [], alts := [], laidByText := true, laidKinds := [.data], laidTests := true, laidLooks := .later }
def AnnotOutlivedCardSaid : Prop := Claim7.holds Tryd.pinned (.plain (OpenSpec.ofChange annotOutlivedSpec)) annotOutlivedCard

/-- THE SECOND FORM's CARD OF 'kraallaw14.AnnotUp'. -/
def annotUpUptoCard : Claim7 := { stood := { row := annotUpUptoRow, standIns := [], harness := (true, "00324bf2ddcac32cb89b0a8c714d3994d9ea19c6e2869f2958b2acc40e01aa62"), looks := false }, kinds := [], alts := [], laidByText := true, laidKinds := [.data], laidTests := true, laidLooks := .later }
def AnnotUpUptoCardSaid : Prop := Claim7.holds Tryd.pinned (.plain (OpenSpec.upto annotUpSpec)) annotUpUptoCard

/-- THE SECOND FORM's CARD OF 'kraallaw14.AnnotChecks'. -/
def annotChecksUptoCard : Claim7 := { stood := { row := annotChecksUptoRow, standIns := [], harness := (true, "00324bf2ddcac32cb89b0a8c714d3994d9ea19c6e2869f2958b2acc40e01aa62"), looks := false }, kinds := [], alts := [], laidByText := true, laidKinds := [.data], laidTests := true, laidLooks := .later }
def AnnotChecksUptoCardSaid : Prop := Claim7.holds Tryd.pinned (.plain (OpenSpec.upto annotChecksSpec)) annotChecksUptoCard

/-- THE SECOND FORM's CARD OF 'kraallaw14.AnnotOutlived'. -/
def annotOutlivedUptoCard : Claim7 := { stood := { row := annotOutlivedUptoRow, standIns := [], harness := (true, "00324bf2ddcac32cb89b0a8c714d3994d9ea19c6e2869f2958b2acc40e01aa62"), looks := false }, kinds := [], alts := [], laidByText := true, laidKinds := [.data], laidTests := true, laidLooks := .later }
def AnnotOutlivedUptoCardSaid : Prop := Claim7.holds Tryd.pinned (.plain (OpenSpec.upto annotOutlivedSpec)) annotOutlivedUptoCard
end Rows
end Go.Proofs.YtinjbonodlkafaaDoor

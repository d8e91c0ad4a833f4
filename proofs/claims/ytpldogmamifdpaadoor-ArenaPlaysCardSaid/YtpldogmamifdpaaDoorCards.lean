/-
  DERIVED. GIVEN WITH THE SEED: THE CARDS: each row of YtpldogmamifdpaaDoorRows.lean that lists a variable, with what it lists TIED to the program's text (the seventh form; the later family's looks); each row that meets fmt, with fmt's text TOLD by the authors' own Lean function (tested against real Go, not proved from fmt's source: count such statements apart). THE CARD IS WHAT COUNTS. Prove the row's statement (the work); the ties are given (YtpldogmamifdpaaDoorTie.lean); close each card by the builder's one call (the guide's Derived/Test/ToyasCard.lean, 'card_holds'). Laid BY PROGRAM, IN A SANDBOX (cutbox-door.mjs). By AI agents, Wed Nov 11 2026. No macro, syntax, notation, axiom, sorry.
-/
import Derived.Test.YtpldogmamifdpaaDoorRows
import GoSem.ClaimSeven
namespace Go.Proofs.YtpldogmamifdpaaDoor
namespace Rows

/-- THE TIED CARD OF 'kraallaw11.ArenaNone'. -/
def arenaNoneCard : Claim7 := { stood := { row := arenaNoneRow, standIns := [], harness := (true, "35625fe8cd33f9b654e1db4fe4bf570b1c04aa55830f90a3b03f7253e7ce1457"), looks := false }, kinds := [], alts := [], laidByText := true, laidKinds := [.data], laidTests := true, laidLooks := .later }
def ArenaNoneCardSaid : Prop := Claim7.holds Tryd.pinned (.plain (OpenSpec.ofChange arenaNoneSpec)) arenaNoneCard

/-- THE TIED CARD OF 'kraallaw11.ArenaAgain'. -/
def arenaAgainCard : Claim7 := { stood := { row := arenaAgainRow, standIns := [], harness := (true, "35625fe8cd33f9b654e1db4fe4bf570b1c04aa55830f90a3b03f7253e7ce1457"), looks := false }, kinds := [], alts := [], laidByText := true, laidKinds := [.data], laidTests := true, laidLooks := .later }
def ArenaAgainCardSaid : Prop := Claim7.holds Tryd.pinned (.plain (OpenSpec.ofChange arenaAgainSpec)) arenaAgainCard

/-- THE TIED CARD OF 'kraallaw11.ArenaApart'. -/
def arenaApartCard : Claim7 := { stood := { row := arenaApartRow, standIns := [], harness := (true, "35625fe8cd33f9b654e1db4fe4bf570b1c04aa55830f90a3b03f7253e7ce1457"), looks := false }, kinds := [], alts := [], laidByText := true, laidKinds := [.data], laidTests := true, laidLooks := .later }
def ArenaApartCardSaid : Prop := Claim7.holds Tryd.pinned (.plain (OpenSpec.ofChange arenaApartSpec)) arenaApartCard

/-- THE TIED CARD OF 'kraallaw11.ArenaPlays'. -/
def arenaPlaysCard : Claim7 := { stood := { row := arenaPlaysRow, standIns := [], harness := (true, "35625fe8cd33f9b654e1db4fe4bf570b1c04aa55830f90a3b03f7253e7ce1457"), looks := false }, kinds := [], alts := [], laidByText := true, laidKinds := [.data], laidTests := true, laidLooks := .later }
def ArenaPlaysCardSaid : Prop := Claim7.holds Tryd.pinned (.plain (OpenSpec.ofChange arenaPlaysSpec)) arenaPlaysCard

/-- THE SECOND FORM's CARD OF 'kraallaw11.ArenaNone'. -/
def arenaNoneUptoCard : Claim7 := { stood := { row := arenaNoneUptoRow, standIns := [], harness := (true, "35625fe8cd33f9b654e1db4fe4bf570b1c04aa55830f90a3b03f7253e7ce1457"), looks := false }, kinds := [], alts := [], laidByText := true, laidKinds := [.data], laidTests := true, laidLooks := .later }
def ArenaNoneUptoCardSaid : Prop := Claim7.holds Tryd.pinned (.plain (OpenSpec.upto arenaNoneSpec)) arenaNoneUptoCard

/-- THE SECOND FORM's CARD OF 'kraallaw11.ArenaAgain'. -/
def arenaAgainUptoCard : Claim7 := { stood := { row := arenaAgainUptoRow, standIns := [], harness := (true, "35625fe8cd33f9b654e1db4fe4bf570b1c04aa55830f90a3b03f7253e7ce1457"), looks := false }, kinds := [], alts := [], laidByText := true, laidKinds := [.data], laidTests := true, laidLooks := .later }
def ArenaAgainUptoCardSaid : Prop := Claim7.holds Tryd.pinned (.plain (OpenSpec.upto arenaAgainSpec)) arenaAgainUptoCard

/-- THE SECOND FORM's CARD OF 'kraallaw11.ArenaApart'. -/
def arenaApartUptoCard : Claim7 := { stood := { row := arenaApartUptoRow, standIns := [], harness := (true, "35625fe8cd33f9b654e1db4fe4bf570b1c04aa55830f90a3b03f7253e7ce1457"), looks := false }, kinds := [], alts := [], laidByText := true, laidKinds := [.data], laidTests := true, laidLooks := .later }
def ArenaApartUptoCardSaid : Prop := Claim7.holds Tryd.pinned (.plain (OpenSpec.upto arenaApartSpec)) arenaApartUptoCard

/-- THE SECOND FORM's CARD OF 'kraallaw11.ArenaPlays'. -/
def arenaPlaysUptoCard : Claim7 := { stood := { row := arenaPlaysUptoRow, standIns := [], harness := (true, "35625fe8cd33f9b654e1db4fe4bf570b1c04aa55830f90a3b03f7253e7ce1457"), looks := false }, kinds := [], alts := [], laidByText := true, laidKinds := [.data], laidTests := true, laidLooks := .later }
def ArenaPlaysUptoCardSaid : Prop := Claim7.holds Tryd.pinned (.plain (OpenSpec.upto arenaPlaysSpec)) arenaPlaysUptoCard
end Rows
end Go.Proofs.YtpldogmamifdpaaDoor

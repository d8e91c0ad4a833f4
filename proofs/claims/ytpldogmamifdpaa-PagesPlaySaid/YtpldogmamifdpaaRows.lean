/-
  No cell of these rows narrows 'for every input' (looked for: loops, veiled, ifaces, maps, wideKeys, modest, calm, conditions, laid).
  DERIVED. THE GIVEN ROWS OF THIS SEAT. 8 by the template 'for every input the law returns true; each argument reads behind the call as it read before'; 0 by the template 'total and deterministic' (their statements: YtpldogmamifdpaaTotals.lean).
  GIVEN WITH THE SEED: the statements are not yours to turn. If you find one false, say at which input.
  Laid BY PROGRAM, IN A SANDBOX (cutbox-rows.mjs): the forced cells as the released guide's own fill.sh prints them over the translation cc6cd0827d511a58… (all of the seat's roots in one cut). By AI agents, Wed Nov 11 2026. No macro, syntax, notation, axiom, sorry.
-/
import Derived.Test.YtpldogmamifdpaaChecked
import GoSem.Claim
import GoSem.ClaimJoined
import GoSem.ClaimMapViews
import Derived.JoinedTies
import Derived.KernelRfl
namespace Go.Proofs.Ytpldogmamifdpaa
/- THE CELL 'sum', in the pinned program and in every row, IS THE sha256 OF THE DUMP (.gsa) THAT YtpldogmamifdpaaProg.lean LOADS. Nothing in Lean hashes anything: it is a label: what it is worth is what the hold of that sum in a sandbox is worth. -/
noncomputable def Try.pinned : Pinned := { name := "ytpldogmamifdpaa", sum := "cc6cd0827d511a58ea8c561c8551086e413026c4d6b41a0e9237fcddcaf1944a", checked := Try.checked }
namespace Rows
def none {H : Type} : Left H := { results := [], args := [] }

/-- 'kraallaw02.BitsNext': WHATEVER THE INPUT: true; the input reads as it did. -/
def bitsNextSpec : ChangeSpec := { name := "bitsNext", fn := fun _ => fun
  | [d1, d2] => { results := [.lit (.bool true)], args := [d1, d2] }
  | _ => none }
def bitsNextRow : OpenClaim := { program := "ytpldogmamifdpaa", sum := "cc6cd0827d511a58ea8c561c8551086e413026c4d6b41a0e9237fcddcaf1944a", func := "kraal/kraallaw02.BitsNext", spec := "bitsNext", apart := false }
def BitsNextSaid : Prop := bitsNextRow.holds Try.pinned (OpenSpec.ofChange bitsNextSpec)

/-- ITS FALSE NEIGHBOUR: 'it returns false'. Refute it at one input. -/
def bitsNextWrong : ChangeSpec := { name := "bitsNext", fn := fun _ => fun
  | [d1, d2] => { results := [.lit (.bool false)], args := [d1, d2] }
  | _ => none }
def BitsNextWrongFalsely : Prop := bitsNextRow.holds Try.pinned (OpenSpec.ofChange bitsNextWrong)

/-- 'kraallaw09.StartsBefore': WHATEVER THE INPUT: true; the input reads as it did. -/
def startsBeforeSpec : ChangeSpec := { name := "startsBefore", fn := fun _ => fun
  | [d1, d2, d3] => { results := [.lit (.bool true)], args := [d1, d2, d3] }
  | _ => none }
def startsBeforeRow : OpenClaim := { program := "ytpldogmamifdpaa", sum := "cc6cd0827d511a58ea8c561c8551086e413026c4d6b41a0e9237fcddcaf1944a", func := "kraal/kraallaw09.StartsBefore", spec := "startsBefore", unfollowed := true, recurses := true, apart := false }
def StartsBeforeSaid : Prop := startsBeforeRow.holds Try.pinned (OpenSpec.ofChange startsBeforeSpec)

/-- ITS FALSE NEIGHBOUR: 'it returns false'. Refute it at one input. -/
def startsBeforeWrong : ChangeSpec := { name := "startsBefore", fn := fun _ => fun
  | [d1, d2, d3] => { results := [.lit (.bool false)], args := [d1, d2, d3] }
  | _ => none }
def StartsBeforeWrongFalsely : Prop := startsBeforeRow.holds Try.pinned (OpenSpec.ofChange startsBeforeWrong)

/-- 'kraallaw02.BitsBack': WHATEVER THE INPUT: true; the input reads as it did. -/
def bitsBackSpec : ChangeSpec := { name := "bitsBack", fn := fun _ => fun
  | [d1, d2, d3] => { results := [.lit (.bool true)], args := [d1, d2, d3] }
  | _ => none }
def bitsBackRow : OpenClaim := { program := "ytpldogmamifdpaa", sum := "cc6cd0827d511a58ea8c561c8551086e413026c4d6b41a0e9237fcddcaf1944a", func := "kraal/kraallaw02.BitsBack", spec := "bitsBack", apart := false }
def BitsBackSaid : Prop := bitsBackRow.holds Try.pinned (OpenSpec.ofChange bitsBackSpec)

/-- ITS FALSE NEIGHBOUR: 'it returns false'. Refute it at one input. -/
def bitsBackWrong : ChangeSpec := { name := "bitsBack", fn := fun _ => fun
  | [d1, d2, d3] => { results := [.lit (.bool false)], args := [d1, d2, d3] }
  | _ => none }
def BitsBackWrongFalsely : Prop := bitsBackRow.holds Try.pinned (OpenSpec.ofChange bitsBackWrong)

/-- 'kraallaw02.BitsFind': WHATEVER THE INPUT: true; the input reads as it did. -/
def bitsFindSpec : ChangeSpec := { name := "bitsFind", fn := fun _ => fun
  | [d1, d2, d3] => { results := [.lit (.bool true)], args := [d1, d2, d3] }
  | _ => none }
def bitsFindRow : OpenClaim := { program := "ytpldogmamifdpaa", sum := "cc6cd0827d511a58ea8c561c8551086e413026c4d6b41a0e9237fcddcaf1944a", func := "kraal/kraallaw02.BitsFind", spec := "bitsFind", apart := false }
def BitsFindSaid : Prop := bitsFindRow.holds Try.pinned (OpenSpec.ofChange bitsFindSpec)

/-- ITS FALSE NEIGHBOUR: 'it returns false'. Refute it at one input. -/
def bitsFindWrong : ChangeSpec := { name := "bitsFind", fn := fun _ => fun
  | [d1, d2, d3] => { results := [.lit (.bool false)], args := [d1, d2, d3] }
  | _ => none }
def BitsFindWrongFalsely : Prop := bitsFindRow.holds Try.pinned (OpenSpec.ofChange bitsFindWrong)

/-- 'kraallaw02.BitsPlay': WHATEVER THE INPUT: true; the input reads as it did. -/
def bitsPlaySpec : ChangeSpec := { name := "bitsPlay", fn := fun _ => fun
  | [d1, d2, d3] => { results := [.lit (.bool true)], args := [d1, d2, d3] }
  | _ => none }
def bitsPlayRow : OpenClaim := { program := "ytpldogmamifdpaa", sum := "cc6cd0827d511a58ea8c561c8551086e413026c4d6b41a0e9237fcddcaf1944a", func := "kraal/kraallaw02.BitsPlay", spec := "bitsPlay", apart := false }
def BitsPlaySaid : Prop := bitsPlayRow.holds Try.pinned (OpenSpec.ofChange bitsPlaySpec)

/-- ITS FALSE NEIGHBOUR: 'it returns false'. Refute it at one input. -/
def bitsPlayWrong : ChangeSpec := { name := "bitsPlay", fn := fun _ => fun
  | [d1, d2, d3] => { results := [.lit (.bool false)], args := [d1, d2, d3] }
  | _ => none }
def BitsPlayWrongFalsely : Prop := bitsPlayRow.holds Try.pinned (OpenSpec.ofChange bitsPlayWrong)

/-- 'kraallaw09.StartsPlay': WHATEVER THE INPUT: true; the input reads as it did. -/
def startsPlaySpec : ChangeSpec := { name := "startsPlay", fn := fun _ => fun
  | [d1, d2, d3] => { results := [.lit (.bool true)], args := [d1, d2, d3] }
  | _ => none }
def startsPlayRow : OpenClaim := { program := "ytpldogmamifdpaa", sum := "cc6cd0827d511a58ea8c561c8551086e413026c4d6b41a0e9237fcddcaf1944a", func := "kraal/kraallaw09.StartsPlay", spec := "startsPlay", unfollowed := true, recurses := true, apart := false }
def StartsPlaySaid : Prop := startsPlayRow.holds Try.pinned (OpenSpec.ofChange startsPlaySpec)

/-- ITS FALSE NEIGHBOUR: 'it returns false'. Refute it at one input. -/
def startsPlayWrong : ChangeSpec := { name := "startsPlay", fn := fun _ => fun
  | [d1, d2, d3] => { results := [.lit (.bool false)], args := [d1, d2, d3] }
  | _ => none }
def StartsPlayWrongFalsely : Prop := startsPlayRow.holds Try.pinned (OpenSpec.ofChange startsPlayWrong)

/-- 'kraallaw03.PagesTwice': WHATEVER THE INPUT: true; the input reads as it did. -/
def pagesTwiceSpec : ChangeSpec := { name := "pagesTwice", fn := fun _ => fun
  | [d1, d2, d3] => { results := [.lit (.bool true)], args := [d1, d2, d3] }
  | _ => none }
def pagesTwiceRow : OpenClaim := { program := "ytpldogmamifdpaa", sum := "cc6cd0827d511a58ea8c561c8551086e413026c4d6b41a0e9237fcddcaf1944a", func := "kraal/kraallaw03.PagesTwice", spec := "pagesTwice", unfollowed := true, recurses := true, apart := false }
def PagesTwiceSaid : Prop := pagesTwiceRow.holds Try.pinned (OpenSpec.ofChange pagesTwiceSpec)

/-- ITS FALSE NEIGHBOUR: 'it returns false'. Refute it at one input. -/
def pagesTwiceWrong : ChangeSpec := { name := "pagesTwice", fn := fun _ => fun
  | [d1, d2, d3] => { results := [.lit (.bool false)], args := [d1, d2, d3] }
  | _ => none }
def PagesTwiceWrongFalsely : Prop := pagesTwiceRow.holds Try.pinned (OpenSpec.ofChange pagesTwiceWrong)

/-- 'kraallaw03.PagesPlay': WHATEVER THE INPUT: true; the input reads as it did. -/
def pagesPlaySpec : ChangeSpec := { name := "pagesPlay", fn := fun _ => fun
  | [d1, d2, d3] => { results := [.lit (.bool true)], args := [d1, d2, d3] }
  | _ => none }
def pagesPlayRow : OpenClaim := { program := "ytpldogmamifdpaa", sum := "cc6cd0827d511a58ea8c561c8551086e413026c4d6b41a0e9237fcddcaf1944a", func := "kraal/kraallaw03.PagesPlay", spec := "pagesPlay", unfollowed := true, recurses := true, apart := false }
def PagesPlaySaid : Prop := pagesPlayRow.holds Try.pinned (OpenSpec.ofChange pagesPlaySpec)

/-- ITS FALSE NEIGHBOUR: 'it returns false'. Refute it at one input. -/
def pagesPlayWrong : ChangeSpec := { name := "pagesPlay", fn := fun _ => fun
  | [d1, d2, d3] => { results := [.lit (.bool false)], args := [d1, d2, d3] }
  | _ => none }
def PagesPlayWrongFalsely : Prop := pagesPlayRow.holds Try.pinned (OpenSpec.ofChange pagesPlayWrong)

/- THE SECOND FORM. 'bulk': how many values and letters a reading holds, each counted each time it is reached (what is shared counts as often as it is met; a slice's spare places count too). A statement '..UptoSaid' is the law's where the arguments, and the package variables that the reading takes, are together of bulk at most 1048576: NARROWER than '..Said'. Prove '..Said' where nothing that the law and all that it calls make is longer than what came in: it says more and counts as full. Else prove '..UptoSaid'. A law counts once. -/
mutual
def uptoBulk {H : Type} : DataW H → Nat
  | .lit (.string bytes) => bytes.length + 1
  | .lit _ => 1
  | .nil => 1
  | .ptr d => uptoBulk d + 1
  | .slice elems spare => uptoBulkAll elems + uptoBulkAll spare + 1
  | .agg parts => uptoBulkAll parts + 1
  | .iface _ d => uptoBulk d + 1
  | .map entries => uptoBulkEntries entries + 1
  | .held _ => 1
def uptoBulkAll {H : Type} : List (DataW H) → Nat
  | [] => 0
  | d :: r => uptoBulk d + uptoBulkAll r
def uptoBulkEntries {H : Type} : List (Lit × DataW H) → Nat
  | [] => 0
  | x :: r => uptoBulkEntry x + uptoBulkEntries r
def uptoBulkEntry {H : Type} : Lit × DataW H → Nat
  | (.string bytes, d) => bytes.length + uptoBulk d + 1
  | (_, d) => uptoBulk d + 1
 end
def uptoSmall : (H : Type) → List (DataW H) → Bool := fun _ ds => decide (uptoBulkAll ds ≤ 1048576)
def OpenSpec.upto (s : _root_.Go.ChangeSpec) : _root_.Go.OpenSpec := { _root_.Go.OpenSpec.ofChange s with cond := some uptoSmall }

/-- 'kraallaw02.BitsNext', WHERE WHAT IT READS IS OF BULK AT MOST 1048576: true; the input reads as it did. -/
def bitsNextUptoRow : OpenClaim := { program := "ytpldogmamifdpaa", sum := "cc6cd0827d511a58ea8c561c8551086e413026c4d6b41a0e9237fcddcaf1944a", func := "kraal/kraallaw02.BitsNext", spec := "bitsNext", apart := false, narrowed := true }
def BitsNextUptoSaid : Prop := bitsNextUptoRow.holds Try.pinned (OpenSpec.upto bitsNextSpec)

/-- 'kraallaw09.StartsBefore', WHERE WHAT IT READS IS OF BULK AT MOST 1048576: true; the input reads as it did. -/
def startsBeforeUptoRow : OpenClaim := { program := "ytpldogmamifdpaa", sum := "cc6cd0827d511a58ea8c561c8551086e413026c4d6b41a0e9237fcddcaf1944a", func := "kraal/kraallaw09.StartsBefore", spec := "startsBefore", unfollowed := true, recurses := true, apart := false, narrowed := true }
def StartsBeforeUptoSaid : Prop := startsBeforeUptoRow.holds Try.pinned (OpenSpec.upto startsBeforeSpec)

/-- 'kraallaw02.BitsBack', WHERE WHAT IT READS IS OF BULK AT MOST 1048576: true; the input reads as it did. -/
def bitsBackUptoRow : OpenClaim := { program := "ytpldogmamifdpaa", sum := "cc6cd0827d511a58ea8c561c8551086e413026c4d6b41a0e9237fcddcaf1944a", func := "kraal/kraallaw02.BitsBack", spec := "bitsBack", apart := false, narrowed := true }
def BitsBackUptoSaid : Prop := bitsBackUptoRow.holds Try.pinned (OpenSpec.upto bitsBackSpec)

/-- 'kraallaw02.BitsFind', WHERE WHAT IT READS IS OF BULK AT MOST 1048576: true; the input reads as it did. -/
def bitsFindUptoRow : OpenClaim := { program := "ytpldogmamifdpaa", sum := "cc6cd0827d511a58ea8c561c8551086e413026c4d6b41a0e9237fcddcaf1944a", func := "kraal/kraallaw02.BitsFind", spec := "bitsFind", apart := false, narrowed := true }
def BitsFindUptoSaid : Prop := bitsFindUptoRow.holds Try.pinned (OpenSpec.upto bitsFindSpec)

/-- 'kraallaw02.BitsPlay', WHERE WHAT IT READS IS OF BULK AT MOST 1048576: true; the input reads as it did. -/
def bitsPlayUptoRow : OpenClaim := { program := "ytpldogmamifdpaa", sum := "cc6cd0827d511a58ea8c561c8551086e413026c4d6b41a0e9237fcddcaf1944a", func := "kraal/kraallaw02.BitsPlay", spec := "bitsPlay", apart := false, narrowed := true }
def BitsPlayUptoSaid : Prop := bitsPlayUptoRow.holds Try.pinned (OpenSpec.upto bitsPlaySpec)

/-- 'kraallaw09.StartsPlay', WHERE WHAT IT READS IS OF BULK AT MOST 1048576: true; the input reads as it did. -/
def startsPlayUptoRow : OpenClaim := { program := "ytpldogmamifdpaa", sum := "cc6cd0827d511a58ea8c561c8551086e413026c4d6b41a0e9237fcddcaf1944a", func := "kraal/kraallaw09.StartsPlay", spec := "startsPlay", unfollowed := true, recurses := true, apart := false, narrowed := true }
def StartsPlayUptoSaid : Prop := startsPlayUptoRow.holds Try.pinned (OpenSpec.upto startsPlaySpec)

/-- 'kraallaw03.PagesTwice', WHERE WHAT IT READS IS OF BULK AT MOST 1048576: true; the input reads as it did. -/
def pagesTwiceUptoRow : OpenClaim := { program := "ytpldogmamifdpaa", sum := "cc6cd0827d511a58ea8c561c8551086e413026c4d6b41a0e9237fcddcaf1944a", func := "kraal/kraallaw03.PagesTwice", spec := "pagesTwice", unfollowed := true, recurses := true, apart := false, narrowed := true }
def PagesTwiceUptoSaid : Prop := pagesTwiceUptoRow.holds Try.pinned (OpenSpec.upto pagesTwiceSpec)

/-- 'kraallaw03.PagesPlay', WHERE WHAT IT READS IS OF BULK AT MOST 1048576: true; the input reads as it did. -/
def pagesPlayUptoRow : OpenClaim := { program := "ytpldogmamifdpaa", sum := "cc6cd0827d511a58ea8c561c8551086e413026c4d6b41a0e9237fcddcaf1944a", func := "kraal/kraallaw03.PagesPlay", spec := "pagesPlay", unfollowed := true, recurses := true, apart := false, narrowed := true }
def PagesPlayUptoSaid : Prop := pagesPlayUptoRow.holds Try.pinned (OpenSpec.upto pagesPlaySpec)

end Rows
end Go.Proofs.Ytpldogmamifdpaa

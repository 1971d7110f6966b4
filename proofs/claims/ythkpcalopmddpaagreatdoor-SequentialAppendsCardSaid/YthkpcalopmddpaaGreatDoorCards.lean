/-
  DERIVED. GIVEN WITH THE SEED: THE CARDS: each row of YthkpcalopmddpaaGreatDoorRows.lean that lists a variable, with what it lists TIED to the program's text (the seventh form; the later family's looks); each row that meets fmt, with fmt's text TOLD by the authors' own Lean function (tested against real Go, not proved from fmt's source: count such statements apart). THE CARD IS WHAT COUNTS. Prove the row's statement (the work); the ties are given (YthkpcalopmddpaaGreatDoorTie.lean); close each card by the builder's one call (the guide's Derived/Test/ToyasCard.lean, 'card_holds'). Laid BY PROGRAM, IN A SANDBOX (cutbox-door.mjs). By AI agents, Wed Nov 11 2026. No macro, syntax, notation, axiom, sorry.
-/
import Derived.Test.YthkpcalopmddpaaGreatDoorRows
import GoSem.ClaimSeven
namespace Go.Proofs.YthkpcalopmddpaaGreatDoor
namespace Rows

/-- THE TIED CARD OF 'dasdlaw13.SequentialReads'. -/
def sequentialReadsCard : Claim7 := { stood := { row := sequentialReadsRow, standIns := [], harness := (true, "79f6c9b6465a27463982b041ea220d82398698c8ad17a909678319829eb793ce"), looks := false }, kinds := [], alts := [], laidByText := true, laidKinds := [.widerDeep], laidTests := true, laidLooks := .later }
def SequentialReadsCardSaid : Prop := Claim7.holds Tryz.pinned (.plain (OpenSpec.ofChange sequentialReadsSpec)) sequentialReadsCard

/-- THE TIED CARD OF 'dasdlaw13.SequentialGets'. -/
def sequentialGetsCard : Claim7 := { stood := { row := sequentialGetsRow, standIns := [], harness := (true, "79f6c9b6465a27463982b041ea220d82398698c8ad17a909678319829eb793ce"), looks := false }, kinds := [], alts := [], laidByText := true, laidKinds := [.widerDeep], laidTests := true, laidLooks := .later }
def SequentialGetsCardSaid : Prop := Claim7.holds Tryz.pinned (.plain (OpenSpec.ofChange sequentialGetsSpec)) sequentialGetsCard

/-- THE TIED CARD OF 'dasdlaw13.SequentialAppends'. -/
def sequentialAppendsCard : Claim7 := { stood := { row := sequentialAppendsRow, standIns := [], harness := (true, "79f6c9b6465a27463982b041ea220d82398698c8ad17a909678319829eb793ce"), looks := false }, kinds := [], alts := [], laidByText := true, laidKinds := [.widerDeep], laidTests := true, laidLooks := .later }
def SequentialAppendsCardSaid : Prop := Claim7.holds Tryz.pinned (.plain (OpenSpec.ofChange sequentialAppendsSpec)) sequentialAppendsCard

/-- THE SECOND FORM's CARD OF 'dasdlaw13.SequentialReads'. -/
def sequentialReadsUptoCard : Claim7 := { stood := { row := sequentialReadsUptoRow, standIns := [], harness := (true, "79f6c9b6465a27463982b041ea220d82398698c8ad17a909678319829eb793ce"), looks := false }, kinds := [], alts := [], laidByText := true, laidKinds := [.widerDeep], laidTests := true, laidLooks := .later }
def SequentialReadsUptoCardSaid : Prop := Claim7.holds Tryz.pinned (.plain (OpenSpec.upto sequentialReadsSpec)) sequentialReadsUptoCard

/-- THE SECOND FORM's CARD OF 'dasdlaw13.SequentialGets'. -/
def sequentialGetsUptoCard : Claim7 := { stood := { row := sequentialGetsUptoRow, standIns := [], harness := (true, "79f6c9b6465a27463982b041ea220d82398698c8ad17a909678319829eb793ce"), looks := false }, kinds := [], alts := [], laidByText := true, laidKinds := [.widerDeep], laidTests := true, laidLooks := .later }
def SequentialGetsUptoCardSaid : Prop := Claim7.holds Tryz.pinned (.plain (OpenSpec.upto sequentialGetsSpec)) sequentialGetsUptoCard

/-- THE SECOND FORM's CARD OF 'dasdlaw13.SequentialAppends'. -/
def sequentialAppendsUptoCard : Claim7 := { stood := { row := sequentialAppendsUptoRow, standIns := [], harness := (true, "79f6c9b6465a27463982b041ea220d82398698c8ad17a909678319829eb793ce"), looks := false }, kinds := [], alts := [], laidByText := true, laidKinds := [.widerDeep], laidTests := true, laidLooks := .later }
def SequentialAppendsUptoCardSaid : Prop := Claim7.holds Tryz.pinned (.plain (OpenSpec.upto sequentialAppendsSpec)) sequentialAppendsUptoCard
end Rows
end Go.Proofs.YthkpcalopmddpaaGreatDoor

/-
  DERIVED. GIVEN WITH THE SEED: THE CARDS: each row of YthkpcalopmddpaaDoorRows.lean that lists a variable, with what it lists TIED to the program's text (the seventh form; the later family's looks); each row that meets fmt, with fmt's text TOLD by the authors' own Lean function (tested against real Go, not proved from fmt's source: count such statements apart). THE CARD IS WHAT COUNTS. Prove the row's statement (the work); the ties are given (YthkpcalopmddpaaDoorTie.lean); close each card by the builder's one call (the guide's Derived/Test/ToyasCard.lean, 'card_holds'). Laid BY PROGRAM, IN A SANDBOX (cutbox-door.mjs). By AI agents, Wed Nov 11 2026. No macro, syntax, notation, axiom, sorry.
-/
import Derived.Test.YthkpcalopmddpaaDoorRows
import GoSem.ClaimSeven
namespace Go.Proofs.YthkpcalopmddpaaDoor
namespace Rows

/-- THE TIED CARD OF 'dasdlaw13.SequentialBuilds'. -/
def sequentialBuildsCard : Claim7 := { stood := { row := sequentialBuildsRow, standIns := [], harness := (true, "801471e07ea702067e33a3835126e5daece0aa7c0844c6121ad56c635e6f37f4"), looks := false }, kinds := [], alts := [], laidByText := true, laidKinds := [.widerDeep], laidTests := true, laidLooks := .later }
def SequentialBuildsCardSaid : Prop := Claim7.holds Tryd.pinned (.plain (OpenSpec.ofChange sequentialBuildsSpec)) sequentialBuildsCard

/-- THE TIED CARD OF 'dasdlaw13.SequentialStrict'. -/
def sequentialStrictCard : Claim7 := { stood := { row := sequentialStrictRow, standIns := [], harness := (true, "801471e07ea702067e33a3835126e5daece0aa7c0844c6121ad56c635e6f37f4"), looks := false }, kinds := [], alts := [], laidByText := true, laidKinds := [.widerDeep], laidTests := true, laidLooks := .later }
def SequentialStrictCardSaid : Prop := Claim7.holds Tryd.pinned (.plain (OpenSpec.ofChange sequentialStrictSpec)) sequentialStrictCard

/-- THE TIED CARD OF 'dasdlaw13.SequentialSame'. -/
def sequentialSameCard : Claim7 := { stood := { row := sequentialSameRow, standIns := [], harness := (true, "801471e07ea702067e33a3835126e5daece0aa7c0844c6121ad56c635e6f37f4"), looks := false }, kinds := [], alts := [], laidByText := true, laidKinds := [.widerDeep], laidTests := true, laidLooks := .later }
def SequentialSameCardSaid : Prop := Claim7.holds Tryd.pinned (.plain (OpenSpec.ofChange sequentialSameSpec)) sequentialSameCard

/-- THE TIED CARD OF 'dasdlaw13.SequentialGrows'. -/
def sequentialGrowsCard : Claim7 := { stood := { row := sequentialGrowsRow, standIns := [], harness := (true, "801471e07ea702067e33a3835126e5daece0aa7c0844c6121ad56c635e6f37f4"), looks := false }, kinds := [], alts := [], laidByText := true, laidKinds := [.widerDeep], laidTests := true, laidLooks := .later }
def SequentialGrowsCardSaid : Prop := Claim7.holds Tryd.pinned (.plain (OpenSpec.ofChange sequentialGrowsSpec)) sequentialGrowsCard

/-- THE TIED CARD OF 'dasdlaw13.SequentialBrowses'. -/
def sequentialBrowsesCard : Claim7 := { stood := { row := sequentialBrowsesRow, standIns := [], harness := (true, "801471e07ea702067e33a3835126e5daece0aa7c0844c6121ad56c635e6f37f4"), looks := false }, kinds := [], alts := [], laidByText := true, laidKinds := [.widerDeep], laidTests := true, laidLooks := .later }
def SequentialBrowsesCardSaid : Prop := Claim7.holds Tryd.pinned (.plain (OpenSpec.ofChange sequentialBrowsesSpec)) sequentialBrowsesCard

/-- THE SECOND FORM's CARD OF 'dasdlaw13.SequentialBuilds'. -/
def sequentialBuildsUptoCard : Claim7 := { stood := { row := sequentialBuildsUptoRow, standIns := [], harness := (true, "801471e07ea702067e33a3835126e5daece0aa7c0844c6121ad56c635e6f37f4"), looks := false }, kinds := [], alts := [], laidByText := true, laidKinds := [.widerDeep], laidTests := true, laidLooks := .later }
def SequentialBuildsUptoCardSaid : Prop := Claim7.holds Tryd.pinned (.plain (OpenSpec.upto sequentialBuildsSpec)) sequentialBuildsUptoCard

/-- THE SECOND FORM's CARD OF 'dasdlaw13.SequentialStrict'. -/
def sequentialStrictUptoCard : Claim7 := { stood := { row := sequentialStrictUptoRow, standIns := [], harness := (true, "801471e07ea702067e33a3835126e5daece0aa7c0844c6121ad56c635e6f37f4"), looks := false }, kinds := [], alts := [], laidByText := true, laidKinds := [.widerDeep], laidTests := true, laidLooks := .later }
def SequentialStrictUptoCardSaid : Prop := Claim7.holds Tryd.pinned (.plain (OpenSpec.upto sequentialStrictSpec)) sequentialStrictUptoCard

/-- THE SECOND FORM's CARD OF 'dasdlaw13.SequentialSame'. -/
def sequentialSameUptoCard : Claim7 := { stood := { row := sequentialSameUptoRow, standIns := [], harness := (true, "801471e07ea702067e33a3835126e5daece0aa7c0844c6121ad56c635e6f37f4"), looks := false }, kinds := [], alts := [], laidByText := true, laidKinds := [.widerDeep], laidTests := true, laidLooks := .later }
def SequentialSameUptoCardSaid : Prop := Claim7.holds Tryd.pinned (.plain (OpenSpec.upto sequentialSameSpec)) sequentialSameUptoCard

/-- THE SECOND FORM's CARD OF 'dasdlaw13.SequentialGrows'. -/
def sequentialGrowsUptoCard : Claim7 := { stood := { row := sequentialGrowsUptoRow, standIns := [], harness := (true, "801471e07ea702067e33a3835126e5daece0aa7c0844c6121ad56c635e6f37f4"), looks := false }, kinds := [], alts := [], laidByText := true, laidKinds := [.widerDeep], laidTests := true, laidLooks := .later }
def SequentialGrowsUptoCardSaid : Prop := Claim7.holds Tryd.pinned (.plain (OpenSpec.upto sequentialGrowsSpec)) sequentialGrowsUptoCard

/-- THE SECOND FORM's CARD OF 'dasdlaw13.SequentialBrowses'. -/
def sequentialBrowsesUptoCard : Claim7 := { stood := { row := sequentialBrowsesUptoRow, standIns := [], harness := (true, "801471e07ea702067e33a3835126e5daece0aa7c0844c6121ad56c635e6f37f4"), looks := false }, kinds := [], alts := [], laidByText := true, laidKinds := [.widerDeep], laidTests := true, laidLooks := .later }
def SequentialBrowsesUptoCardSaid : Prop := Claim7.holds Tryd.pinned (.plain (OpenSpec.upto sequentialBrowsesSpec)) sequentialBrowsesUptoCard
end Rows
end Go.Proofs.YthkpcalopmddpaaDoor

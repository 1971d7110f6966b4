/-
  DERIVED. GIVEN WITH THE SEED: THE CARDS: each row of YtckpepfkfjdnhaaGreatDoorRows.lean that lists a variable, with what it lists TIED to the program's text (the seventh form; the later family's looks); each row that meets fmt, with fmt's text TOLD by the authors' own Lean function (tested against real Go, not proved from fmt's source: count such statements apart). THE CARD IS WHAT COUNTS. Prove the row's statement (the work); the ties are given (YtckpepfkfjdnhaaGreatDoorTie.lean); close each card by the builder's one call (the guide's Derived/Test/ToyasCard.lean, 'card_holds'). Laid BY PROGRAM, IN A SANDBOX (cutbox-door.mjs). By AI agents, Wed Nov 11 2026. No macro, syntax, notation, axiom, sorry.
-/
import Derived.Test.YtckpepfkfjdnhaaGreatDoorRows
import GoSem.ClaimSeven
namespace Go.Proofs.YtckpepfkfjdnhaaGreatDoor
namespace Rows

/-- THE TIED CARD OF 'dasdlaw49.ForwardDoes'. -/
def forwardDoesCard : Claim7 := { stood := { row := forwardDoesRow, standIns := [], harness := (true, "dc4f968da52d2fb7c13ce984a1022cdfad13117c5f7516fd43ebf28714ba2be0"), looks := false }, kinds := [], alts := [], laidByText := true, laidKinds := [.data, .data, .data, .widerDeep], laidTests := true, laidLooks := .later }
def ForwardDoesCardSaid : Prop := Claim7.holds Tryz.pinned (.plain (OpenSpec.ofChange forwardDoesSpec)) forwardDoesCard

/-- THE TIED CARD OF 'dasdlaw49.ForwardValid'. -/
def forwardValidCard : Claim7 := { stood := { row := forwardValidRow, standIns := [], harness := (true, "dc4f968da52d2fb7c13ce984a1022cdfad13117c5f7516fd43ebf28714ba2be0"), looks := false }, kinds := [], alts := [], laidByText := true, laidKinds := [.data, .data, .data, .widerDeep], laidTests := true, laidLooks := .later }
def ForwardValidCardSaid : Prop := Claim7.holds Tryz.pinned (.plain (OpenSpec.ofChange forwardValidSpec)) forwardValidCard

/-- THE TIED CARD OF 'dasdlaw49.ForwardLaws'. -/
def forwardLawsCard : Claim7 := { stood := { row := forwardLawsRow, standIns := [], harness := (true, "dc4f968da52d2fb7c13ce984a1022cdfad13117c5f7516fd43ebf28714ba2be0"), looks := false }, kinds := [], alts := [], laidByText := true, laidKinds := [.data, .data, .data, .widerDeep], laidTests := true, laidLooks := .later }
def ForwardLawsCardSaid : Prop := Claim7.holds Tryz.pinned (.plain (OpenSpec.ofChange forwardLawsSpec)) forwardLawsCard

/-- THE TIED CARD OF 'dasdlaw49.ForwardRolls'. -/
def forwardRollsCard : Claim7 := { stood := { row := forwardRollsRow, standIns := [], harness := (true, "dc4f968da52d2fb7c13ce984a1022cdfad13117c5f7516fd43ebf28714ba2be0"), looks := false }, kinds := [], alts := [], laidByText := true, laidKinds := [.data, .data, .data, .widerDeep], laidTests := true, laidLooks := .later }
def ForwardRollsCardSaid : Prop := Claim7.holds Tryz.pinned (.plain (OpenSpec.ofChange forwardRollsSpec)) forwardRollsCard

/-- THE TIED CARD OF 'dasdlaw49.ForwardRestores'. -/
def forwardRestoresCard : Claim7 := { stood := { row := forwardRestoresRow, standIns := [], harness := (true, "dc4f968da52d2fb7c13ce984a1022cdfad13117c5f7516fd43ebf28714ba2be0"), looks := false }, kinds := [], alts := [], laidByText := true, laidKinds := [.data, .data, .data, .widerDeep], laidTests := true, laidLooks := .later }
def ForwardRestoresCardSaid : Prop := Claim7.holds Tryz.pinned (.plain (OpenSpec.ofChange forwardRestoresSpec)) forwardRestoresCard

/-- THE TIED CARD OF 'dasdlaw49.ForwardDumps'. -/
def forwardDumpsCard : Claim7 := { stood := { row := forwardDumpsRow, standIns := [], harness := (true, "dc4f968da52d2fb7c13ce984a1022cdfad13117c5f7516fd43ebf28714ba2be0"), looks := false }, kinds := [], alts := [], laidByText := true, laidKinds := [.data, .data, .data, .widerDeep], laidTests := true, laidLooks := .later }
def ForwardDumpsCardSaid : Prop := Claim7.holds Tryz.pinned (.plain (OpenSpec.ofChange forwardDumpsSpec)) forwardDumpsCard

/-- THE TIED CARD OF 'dasdlaw49.ForwardReads'. -/
def forwardReadsCard : Claim7 := { stood := { row := forwardReadsRow, standIns := [], harness := (true, "dc4f968da52d2fb7c13ce984a1022cdfad13117c5f7516fd43ebf28714ba2be0"), looks := false }, kinds := [], alts := [], laidByText := true, laidKinds := [.data, .data, .data, .widerDeep], laidTests := true, laidLooks := .later }
def ForwardReadsCardSaid : Prop := Claim7.holds Tryz.pinned (.plain (OpenSpec.ofChange forwardReadsSpec)) forwardReadsCard

/-- THE SECOND FORM's CARD OF 'dasdlaw49.ForwardDoes'. -/
def forwardDoesUptoCard : Claim7 := { stood := { row := forwardDoesUptoRow, standIns := [], harness := (true, "dc4f968da52d2fb7c13ce984a1022cdfad13117c5f7516fd43ebf28714ba2be0"), looks := false }, kinds := [], alts := [], laidByText := true, laidKinds := [.data, .data, .data, .widerDeep], laidTests := true, laidLooks := .later }
def ForwardDoesUptoCardSaid : Prop := Claim7.holds Tryz.pinned (.plain (OpenSpec.upto forwardDoesSpec)) forwardDoesUptoCard

/-- THE SECOND FORM's CARD OF 'dasdlaw49.ForwardValid'. -/
def forwardValidUptoCard : Claim7 := { stood := { row := forwardValidUptoRow, standIns := [], harness := (true, "dc4f968da52d2fb7c13ce984a1022cdfad13117c5f7516fd43ebf28714ba2be0"), looks := false }, kinds := [], alts := [], laidByText := true, laidKinds := [.data, .data, .data, .widerDeep], laidTests := true, laidLooks := .later }
def ForwardValidUptoCardSaid : Prop := Claim7.holds Tryz.pinned (.plain (OpenSpec.upto forwardValidSpec)) forwardValidUptoCard

/-- THE SECOND FORM's CARD OF 'dasdlaw49.ForwardLaws'. -/
def forwardLawsUptoCard : Claim7 := { stood := { row := forwardLawsUptoRow, standIns := [], harness := (true, "dc4f968da52d2fb7c13ce984a1022cdfad13117c5f7516fd43ebf28714ba2be0"), looks := false }, kinds := [], alts := [], laidByText := true, laidKinds := [.data, .data, .data, .widerDeep], laidTests := true, laidLooks := .later }
def ForwardLawsUptoCardSaid : Prop := Claim7.holds Tryz.pinned (.plain (OpenSpec.upto forwardLawsSpec)) forwardLawsUptoCard

/-- THE SECOND FORM's CARD OF 'dasdlaw49.ForwardRolls'. -/
def forwardRollsUptoCard : Claim7 := { stood := { row := forwardRollsUptoRow, standIns := [], harness := (true, "dc4f968da52d2fb7c13ce984a1022cdfad13117c5f7516fd43ebf28714ba2be0"), looks := false }, kinds := [], alts := [], laidByText := true, laidKinds := [.data, .data, .data, .widerDeep], laidTests := true, laidLooks := .later }
def ForwardRollsUptoCardSaid : Prop := Claim7.holds Tryz.pinned (.plain (OpenSpec.upto forwardRollsSpec)) forwardRollsUptoCard

/-- THE SECOND FORM's CARD OF 'dasdlaw49.ForwardRestores'. -/
def forwardRestoresUptoCard : Claim7 := { stood := { row := forwardRestoresUptoRow, standIns := [], harness := (true, "dc4f968da52d2fb7c13ce984a1022cdfad13117c5f7516fd43ebf28714ba2be0"), looks := false }, kinds := [], alts := [], laidByText := true, laidKinds := [.data, .data, .data, .widerDeep], laidTests := true, laidLooks := .later }
def ForwardRestoresUptoCardSaid : Prop := Claim7.holds Tryz.pinned (.plain (OpenSpec.upto forwardRestoresSpec)) forwardRestoresUptoCard

/-- THE SECOND FORM's CARD OF 'dasdlaw49.ForwardDumps'. -/
def forwardDumpsUptoCard : Claim7 := { stood := { row := forwardDumpsUptoRow, standIns := [], harness := (true, "dc4f968da52d2fb7c13ce984a1022cdfad13117c5f7516fd43ebf28714ba2be0"), looks := false }, kinds := [], alts := [], laidByText := true, laidKinds := [.data, .data, .data, .widerDeep], laidTests := true, laidLooks := .later }
def ForwardDumpsUptoCardSaid : Prop := Claim7.holds Tryz.pinned (.plain (OpenSpec.upto forwardDumpsSpec)) forwardDumpsUptoCard

/-- THE SECOND FORM's CARD OF 'dasdlaw49.ForwardReads'. -/
def forwardReadsUptoCard : Claim7 := { stood := { row := forwardReadsUptoRow, standIns := [], harness := (true, "dc4f968da52d2fb7c13ce984a1022cdfad13117c5f7516fd43ebf28714ba2be0"), looks := false }, kinds := [], alts := [], laidByText := true, laidKinds := [.data, .data, .data, .widerDeep], laidTests := true, laidLooks := .later }
def ForwardReadsUptoCardSaid : Prop := Claim7.holds Tryz.pinned (.plain (OpenSpec.upto forwardReadsSpec)) forwardReadsUptoCard
end Rows
end Go.Proofs.YtckpepfkfjdnhaaGreatDoor

/-
  DERIVED. GIVEN WITH THE SEED: THE CARDS: each row of YtcidbmldbikknaaGreatDoorRows.lean that lists a variable, with what it lists TIED to the program's text (the seventh form; the later family's looks); each row that meets fmt, with fmt's text TOLD by the authors' own Lean function (tested against real Go, not proved from fmt's source: count such statements apart). THE CARD IS WHAT COUNTS. Prove the row's statement (the work); the ties are given (YtcidbmldbikknaaGreatDoorTie.lean); close each card by the builder's one call (the guide's Derived/Test/ToyasCard.lean, 'card_holds'). Laid BY PROGRAM, IN A SANDBOX (cutbox-door.mjs). By AI agents, Wed Nov 11 2026. No macro, syntax, notation, axiom, sorry.
-/
import Derived.Test.YtcidbmldbikknaaGreatDoorRows
import GoSem.ClaimSeven
namespace Go.Proofs.YtcidbmldbikknaaGreatDoor
namespace Rows

/-- THE TIED CARD OF 'dasdlaw15.ScrubTables'. -/
def scrubTablesCard : Claim7 := { stood := { row := scrubTablesRow, standIns := [], harness := (true, "f97d39709ef3dc840661908402cc97123fcc254d71fded137b2e4e4115c65af5"), looks := false }, kinds := [], alts := [], laidByText := true, laidKinds := [.data, .data, .data], laidTests := true, laidLooks := .later }
def ScrubTablesCardSaid : Prop := Claim7.holds Tryz.pinned (.plain (OpenSpec.ofChange scrubTablesSpec)) scrubTablesCard

/-- THE TIED CARD OF 'dasdlaw15.ScrubSectors'. -/
def scrubSectorsCard : Claim7 := { stood := { row := scrubSectorsRow, standIns := [], harness := (true, "f97d39709ef3dc840661908402cc97123fcc254d71fded137b2e4e4115c65af5"), looks := false }, kinds := [], alts := [], laidByText := true, laidKinds := [.data, .data, .data], laidTests := true, laidLooks := .later }
def ScrubSectorsCardSaid : Prop := Claim7.holds Tryz.pinned (.plain (OpenSpec.ofChange scrubSectorsSpec)) scrubSectorsCard

/-- THE TIED CARD OF 'dasdlaw15.ScrubPartition'. -/
def scrubPartitionCard : Claim7 := { stood := { row := scrubPartitionRow, standIns := [], harness := (true, "f97d39709ef3dc840661908402cc97123fcc254d71fded137b2e4e4115c65af5"), looks := false }, kinds := [], alts := [], laidByText := true, laidKinds := [.data, .data, .data], laidTests := true, laidLooks := .later }
def ScrubPartitionCardSaid : Prop := Claim7.holds Tryz.pinned (.plain (OpenSpec.ofChange scrubPartitionSpec)) scrubPartitionCard

/-- THE SECOND FORM's CARD OF 'dasdlaw15.ScrubTables'. -/
def scrubTablesUptoCard : Claim7 := { stood := { row := scrubTablesUptoRow, standIns := [], harness := (true, "f97d39709ef3dc840661908402cc97123fcc254d71fded137b2e4e4115c65af5"), looks := false }, kinds := [], alts := [], laidByText := true, laidKinds := [.data, .data, .data], laidTests := true, laidLooks := .later }
def ScrubTablesUptoCardSaid : Prop := Claim7.holds Tryz.pinned (.plain (OpenSpec.upto scrubTablesSpec)) scrubTablesUptoCard

/-- THE SECOND FORM's CARD OF 'dasdlaw15.ScrubSectors'. -/
def scrubSectorsUptoCard : Claim7 := { stood := { row := scrubSectorsUptoRow, standIns := [], harness := (true, "f97d39709ef3dc840661908402cc97123fcc254d71fded137b2e4e4115c65af5"), looks := false }, kinds := [], alts := [], laidByText := true, laidKinds := [.data, .data, .data], laidTests := true, laidLooks := .later }
def ScrubSectorsUptoCardSaid : Prop := Claim7.holds Tryz.pinned (.plain (OpenSpec.upto scrubSectorsSpec)) scrubSectorsUptoCard

/-- THE SECOND FORM's CARD OF 'dasdlaw15.ScrubPartition'. -/
def scrubPartitionUptoCard : Claim7 := { stood := { row := scrubPartitionUptoRow, standIns := [], harness := (true, "f97d39709ef3dc840661908402cc97123fcc254d71fded137b2e4e4115c65af5"), looks := false }, kinds := [], alts := [], laidByText := true, laidKinds := [.data, .data, .data], laidTests := true, laidLooks := .later }
def ScrubPartitionUptoCardSaid : Prop := Claim7.holds Tryz.pinned (.plain (OpenSpec.upto scrubPartitionSpec)) scrubPartitionUptoCard
end Rows
end Go.Proofs.YtcidbmldbikknaaGreatDoor

/-
  DERIVED. GIVEN WITH THE SEED: THE CARDS: each row of YtcidbmldbikknaaDoorRows.lean that lists a variable, with what it lists TIED to the program's text (the seventh form; the later family's looks); each row that meets fmt, with fmt's text TOLD by the authors' own Lean function (tested against real Go, not proved from fmt's source: count such statements apart). THE CARD IS WHAT COUNTS. Prove the row's statement (the work); the ties are given (YtcidbmldbikknaaDoorTie.lean); close each card by the builder's one call (the guide's Derived/Test/ToyasCard.lean, 'card_holds'). Laid BY PROGRAM, IN A SANDBOX (cutbox-door.mjs). By AI agents, Wed Nov 11 2026. No macro, syntax, notation, axiom, sorry.
-/
import Derived.Test.YtcidbmldbikknaaDoorRows
import GoSem.ClaimSeven
namespace Go.Proofs.YtcidbmldbikknaaDoor
namespace Rows

/-- THE TIED CARD OF 'dasdlaw15.ScrubLines'. -/
def scrubLinesCard : Claim7 := { stood := { row := scrubLinesRow, standIns := [], harness := (true, "69de32026c6ffdc24dc13428d3382803c8419c104bc2a307b0b7dec4d527e72d"), looks := false }, kinds := [], alts := [], laidByText := true, laidKinds := [.data, .data, .data], laidTests := true, laidLooks := .later }
def ScrubLinesCardSaid : Prop := Claim7.holds Tryd.pinned (.plain (OpenSpec.ofChange scrubLinesSpec)) scrubLinesCard

/-- THE TIED CARD OF 'dasdlaw15.ScrubOwners'. -/
def scrubOwnersCard : Claim7 := { stood := { row := scrubOwnersRow, standIns := [], harness := (true, "69de32026c6ffdc24dc13428d3382803c8419c104bc2a307b0b7dec4d527e72d"), looks := false }, kinds := [], alts := [], laidByText := true, laidKinds := [.data, .data, .data], laidTests := true, laidLooks := .later }
def ScrubOwnersCardSaid : Prop := Claim7.holds Tryd.pinned (.plain (OpenSpec.ofChange scrubOwnersSpec)) scrubOwnersCard

/-- THE SECOND FORM's CARD OF 'dasdlaw15.ScrubLines'. -/
def scrubLinesUptoCard : Claim7 := { stood := { row := scrubLinesUptoRow, standIns := [], harness := (true, "69de32026c6ffdc24dc13428d3382803c8419c104bc2a307b0b7dec4d527e72d"), looks := false }, kinds := [], alts := [], laidByText := true, laidKinds := [.data, .data, .data], laidTests := true, laidLooks := .later }
def ScrubLinesUptoCardSaid : Prop := Claim7.holds Tryd.pinned (.plain (OpenSpec.upto scrubLinesSpec)) scrubLinesUptoCard

/-- THE SECOND FORM's CARD OF 'dasdlaw15.ScrubOwners'. -/
def scrubOwnersUptoCard : Claim7 := { stood := { row := scrubOwnersUptoRow, standIns := [], harness := (true, "69de32026c6ffdc24dc13428d3382803c8419c104bc2a307b0b7dec4d527e72d"), looks := false }, kinds := [], alts := [], laidByText := true, laidKinds := [.data, .data, .data], laidTests := true, laidLooks := .later }
def ScrubOwnersUptoCardSaid : Prop := Claim7.holds Tryd.pinned (.plain (OpenSpec.upto scrubOwnersSpec)) scrubOwnersUptoCard
end Rows
end Go.Proofs.YtcidbmldbikknaaDoor

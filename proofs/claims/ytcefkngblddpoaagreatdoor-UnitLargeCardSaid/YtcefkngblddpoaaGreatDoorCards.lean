/-
  DERIVED. GIVEN WITH THE SEED: THE CARDS: each row of YtcefkngblddpoaaGreatDoorRows.lean that lists a variable, with what it lists TIED to the program's text (the seventh form; the later family's looks); each row that meets fmt, with fmt's text TOLD by the authors' own Lean function (tested against real Go, not proved from fmt's source: count such statements apart). THE CARD IS WHAT COUNTS. Prove the row's statement (the work); the ties are given (YtcefkngblddpoaaGreatDoorTie.lean); close each card by the builder's one call (the guide's Derived/Test/ToyasCard.lean, 'card_holds'). Laid BY PROGRAM, IN A SANDBOX (cutbox-door.mjs). By AI agents, Wed Nov 11 2026. No macro, syntax, notation, axiom, sorry.
-/
import Derived.Test.YtcefkngblddpoaaGreatDoorRows
import GoSem.ClaimSeven
namespace Go.Proofs.YtcefkngblddpoaaGreatDoor
namespace Rows

/-- THE TIED CARD OF 'dasdlaw50.UnitCommits'. -/
def unitCommitsCard : Claim7 := { stood := { row := unitCommitsRow, standIns := [], harness := (true, "8204821d70d861807ec6233651d257d3eb1fd3d0c55be38053fb512fe0dc3dfc"), looks := false }, kinds := [], alts := [], laidByText := true, laidKinds := [.data, .data, .data], laidTests := true, laidLooks := .later }
def UnitCommitsCardSaid : Prop := Claim7.holds Tryz.pinned (.plain (OpenSpec.ofChange unitCommitsSpec)) unitCommitsCard

/-- THE TIED CARD OF 'dasdlaw50.UnitCalls'. -/
def unitCallsCard : Claim7 := { stood := { row := unitCallsRow, standIns := [], harness := (true, "8204821d70d861807ec6233651d257d3eb1fd3d0c55be38053fb512fe0dc3dfc"), looks := false }, kinds := [], alts := [], laidByText := true, laidKinds := [.data, .data, .data, .data], laidTests := true, laidLooks := .later }
def UnitCallsCardSaid : Prop := Claim7.holds Tryz.pinned (.plain (OpenSpec.ofChange unitCallsSpec)) unitCallsCard

/-- THE TIED CARD OF 'dasdlaw50.UnitHides'. -/
def unitHidesCard : Claim7 := { stood := { row := unitHidesRow, standIns := [], harness := (true, "8204821d70d861807ec6233651d257d3eb1fd3d0c55be38053fb512fe0dc3dfc"), looks := false }, kinds := [], alts := [], laidByText := true, laidKinds := [.data, .data, .data], laidTests := true, laidLooks := .later }
def UnitHidesCardSaid : Prop := Claim7.holds Tryz.pinned (.plain (OpenSpec.ofChange unitHidesSpec)) unitHidesCard

/-- THE TIED CARD OF 'dasdlaw50.UnitIsolated'. -/
def unitIsolatedCard : Claim7 := { stood := { row := unitIsolatedRow, standIns := [], harness := (true, "8204821d70d861807ec6233651d257d3eb1fd3d0c55be38053fb512fe0dc3dfc"), looks := false }, kinds := [], alts := [], laidByText := true, laidKinds := [.data, .data, .data], laidTests := true, laidLooks := .later }
def UnitIsolatedCardSaid : Prop := Claim7.holds Tryz.pinned (.plain (OpenSpec.ofChange unitIsolatedSpec)) unitIsolatedCard

/-- THE TIED CARD OF 'dasdlaw50.UnitLarge'. -/
def unitLargeCard : Claim7 := { stood := { row := unitLargeRow, standIns := [], harness := (true, "8204821d70d861807ec6233651d257d3eb1fd3d0c55be38053fb512fe0dc3dfc"), looks := false }, kinds := [], alts := [], laidByText := true, laidKinds := [.data, .data, .data], laidTests := true, laidLooks := .later }
def UnitLargeCardSaid : Prop := Claim7.holds Tryz.pinned (.plain (OpenSpec.ofChange unitLargeSpec)) unitLargeCard

/-- THE TIED CARD OF 'dasdlaw50.UnitAlternates'. -/
def unitAlternatesCard : Claim7 := { stood := { row := unitAlternatesRow, standIns := [], harness := (true, "8204821d70d861807ec6233651d257d3eb1fd3d0c55be38053fb512fe0dc3dfc"), looks := false }, kinds := [], alts := [], laidByText := true, laidKinds := [.data, .data, .data], laidTests := true, laidLooks := .later }
def UnitAlternatesCardSaid : Prop := Claim7.holds Tryz.pinned (.plain (OpenSpec.ofChange unitAlternatesSpec)) unitAlternatesCard

/-- THE SECOND FORM's CARD OF 'dasdlaw50.UnitCommits'. -/
def unitCommitsUptoCard : Claim7 := { stood := { row := unitCommitsUptoRow, standIns := [], harness := (true, "8204821d70d861807ec6233651d257d3eb1fd3d0c55be38053fb512fe0dc3dfc"), looks := false }, kinds := [], alts := [], laidByText := true, laidKinds := [.data, .data, .data], laidTests := true, laidLooks := .later }
def UnitCommitsUptoCardSaid : Prop := Claim7.holds Tryz.pinned (.plain (OpenSpec.upto unitCommitsSpec)) unitCommitsUptoCard

/-- THE SECOND FORM's CARD OF 'dasdlaw50.UnitCalls'. -/
def unitCallsUptoCard : Claim7 := { stood := { row := unitCallsUptoRow, standIns := [], harness := (true, "8204821d70d861807ec6233651d257d3eb1fd3d0c55be38053fb512fe0dc3dfc"), looks := false }, kinds := [], alts := [], laidByText := true, laidKinds := [.data, .data, .data, .data], laidTests := true, laidLooks := .later }
def UnitCallsUptoCardSaid : Prop := Claim7.holds Tryz.pinned (.plain (OpenSpec.upto unitCallsSpec)) unitCallsUptoCard

/-- THE SECOND FORM's CARD OF 'dasdlaw50.UnitHides'. -/
def unitHidesUptoCard : Claim7 := { stood := { row := unitHidesUptoRow, standIns := [], harness := (true, "8204821d70d861807ec6233651d257d3eb1fd3d0c55be38053fb512fe0dc3dfc"), looks := false }, kinds := [], alts := [], laidByText := true, laidKinds := [.data, .data, .data], laidTests := true, laidLooks := .later }
def UnitHidesUptoCardSaid : Prop := Claim7.holds Tryz.pinned (.plain (OpenSpec.upto unitHidesSpec)) unitHidesUptoCard

/-- THE SECOND FORM's CARD OF 'dasdlaw50.UnitIsolated'. -/
def unitIsolatedUptoCard : Claim7 := { stood := { row := unitIsolatedUptoRow, standIns := [], harness := (true, "8204821d70d861807ec6233651d257d3eb1fd3d0c55be38053fb512fe0dc3dfc"), looks := false }, kinds := [], alts := [], laidByText := true, laidKinds := [.data, .data, .data], laidTests := true, laidLooks := .later }
def UnitIsolatedUptoCardSaid : Prop := Claim7.holds Tryz.pinned (.plain (OpenSpec.upto unitIsolatedSpec)) unitIsolatedUptoCard

/-- THE SECOND FORM's CARD OF 'dasdlaw50.UnitLarge'. -/
def unitLargeUptoCard : Claim7 := { stood := { row := unitLargeUptoRow, standIns := [], harness := (true, "8204821d70d861807ec6233651d257d3eb1fd3d0c55be38053fb512fe0dc3dfc"), looks := false }, kinds := [], alts := [], laidByText := true, laidKinds := [.data, .data, .data], laidTests := true, laidLooks := .later }
def UnitLargeUptoCardSaid : Prop := Claim7.holds Tryz.pinned (.plain (OpenSpec.upto unitLargeSpec)) unitLargeUptoCard

/-- THE SECOND FORM's CARD OF 'dasdlaw50.UnitAlternates'. -/
def unitAlternatesUptoCard : Claim7 := { stood := { row := unitAlternatesUptoRow, standIns := [], harness := (true, "8204821d70d861807ec6233651d257d3eb1fd3d0c55be38053fb512fe0dc3dfc"), looks := false }, kinds := [], alts := [], laidByText := true, laidKinds := [.data, .data, .data], laidTests := true, laidLooks := .later }
def UnitAlternatesUptoCardSaid : Prop := Claim7.holds Tryz.pinned (.plain (OpenSpec.upto unitAlternatesSpec)) unitAlternatesUptoCard
end Rows
end Go.Proofs.YtcefkngblddpoaaGreatDoor

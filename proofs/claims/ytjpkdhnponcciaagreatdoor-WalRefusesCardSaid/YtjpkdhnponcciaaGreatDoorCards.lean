/-
  DERIVED. GIVEN WITH THE SEED: THE CARDS: each row of YtjpkdhnponcciaaGreatDoorRows.lean that lists a variable, with what it lists TIED to the program's text (the seventh form; the later family's looks); each row that meets fmt, with fmt's text TOLD by the authors' own Lean function (tested against real Go, not proved from fmt's source: count such statements apart). THE CARD IS WHAT COUNTS. Prove the row's statement (the work); the ties are given (YtjpkdhnponcciaaGreatDoorTie.lean); close each card by the builder's one call (the guide's Derived/Test/ToyasCard.lean, 'card_holds'). Laid BY PROGRAM, IN A SANDBOX (cutbox-door.mjs). By AI agents, Wed Nov 11 2026. No macro, syntax, notation, axiom, sorry.
-/
import Derived.Test.YtjpkdhnponcciaaGreatDoorRows
import GoSem.ClaimSeven
namespace Go.Proofs.YtjpkdhnponcciaaGreatDoor
namespace Rows

/-- THE TIED CARD OF 'dasdlaw48.WalCalls'. -/
def walCallsCard : Claim7 := { stood := { row := walCallsRow, standIns := [], harness := (true, "25721496a2f5e2d375324367dec265a5ea5822cee578420e9a73ce76a10b9003"), looks := false }, kinds := [], alts := [], laidByText := true, laidKinds := [.data, .data, .data], laidTests := true, laidLooks := .later }
def WalCallsCardSaid : Prop := Claim7.holds Tryz.pinned (.plain (OpenSpec.ofChange walCallsSpec)) walCallsCard

/-- THE TIED CARD OF 'dasdlaw48.WalNumbers'. -/
def walNumbersCard : Claim7 := { stood := { row := walNumbersRow, standIns := [], harness := (true, "25721496a2f5e2d375324367dec265a5ea5822cee578420e9a73ce76a10b9003"), looks := false }, kinds := [], alts := [], laidByText := true, laidKinds := [.data, .data, .data], laidTests := true, laidLooks := .later }
def WalNumbersCardSaid : Prop := Claim7.holds Tryz.pinned (.plain (OpenSpec.ofChange walNumbersSpec)) walNumbersCard

/-- THE TIED CARD OF 'dasdlaw48.WalShared'. -/
def walSharedCard : Claim7 := { stood := { row := walSharedRow, standIns := [], harness := (true, "25721496a2f5e2d375324367dec265a5ea5822cee578420e9a73ce76a10b9003"), looks := false }, kinds := [], alts := [], laidByText := true, laidKinds := [.data, .data, .data], laidTests := true, laidLooks := .later }
def WalSharedCardSaid : Prop := Claim7.holds Tryz.pinned (.plain (OpenSpec.ofChange walSharedSpec)) walSharedCard

/-- THE TIED CARD OF 'dasdlaw48.WalRefuses'. -/
def walRefusesCard : Claim7 := { stood := { row := walRefusesRow, standIns := [], harness := (true, "25721496a2f5e2d375324367dec265a5ea5822cee578420e9a73ce76a10b9003"), looks := false }, kinds := [], alts := [], laidByText := true, laidKinds := [.data, .data, .data], laidTests := true, laidLooks := .later }
def WalRefusesCardSaid : Prop := Claim7.holds Tryz.pinned (.plain (OpenSpec.ofChange walRefusesSpec)) walRefusesCard

/-- THE TIED CARD OF 'dasdlaw48.WalOpens'. -/
def walOpensCard : Claim7 := { stood := { row := walOpensRow, standIns := [], harness := (true, "25721496a2f5e2d375324367dec265a5ea5822cee578420e9a73ce76a10b9003"), looks := false }, kinds := [], alts := [], laidByText := true, laidKinds := [.data, .data, .data], laidTests := true, laidLooks := .later }
def WalOpensCardSaid : Prop := Claim7.holds Tryz.pinned (.plain (OpenSpec.ofChange walOpensSpec)) walOpensCard

/-- THE TIED CARD OF 'dasdlaw48.WalCrash'. -/
def walCrashCard : Claim7 := { stood := { row := walCrashRow, standIns := [], harness := (true, "25721496a2f5e2d375324367dec265a5ea5822cee578420e9a73ce76a10b9003"), looks := false }, kinds := [], alts := [], laidByText := true, laidKinds := [.data, .data, .data], laidTests := true, laidLooks := .later }
def WalCrashCardSaid : Prop := Claim7.holds Tryz.pinned (.plain (OpenSpec.ofChange walCrashSpec)) walCrashCard

/-- THE TIED CARD OF 'dasdlaw48.WalDamage'. -/
def walDamageCard : Claim7 := { stood := { row := walDamageRow, standIns := [], harness := (true, "25721496a2f5e2d375324367dec265a5ea5822cee578420e9a73ce76a10b9003"), looks := false }, kinds := [], alts := [], laidByText := true, laidKinds := [.data, .data, .data], laidTests := true, laidLooks := .later }
def WalDamageCardSaid : Prop := Claim7.holds Tryz.pinned (.plain (OpenSpec.ofChange walDamageSpec)) walDamageCard

/-- THE TIED CARD OF 'dasdlaw48.WalVolume'. -/
def walVolumeCard : Claim7 := { stood := { row := walVolumeRow, standIns := [], harness := (true, "25721496a2f5e2d375324367dec265a5ea5822cee578420e9a73ce76a10b9003"), looks := false }, kinds := [], alts := [], laidByText := true, laidKinds := [.data, .data, .data], laidTests := true, laidLooks := .later }
def WalVolumeCardSaid : Prop := Claim7.holds Tryz.pinned (.plain (OpenSpec.ofChange walVolumeSpec)) walVolumeCard

/-- THE SECOND FORM's CARD OF 'dasdlaw48.WalCalls'. -/
def walCallsUptoCard : Claim7 := { stood := { row := walCallsUptoRow, standIns := [], harness := (true, "25721496a2f5e2d375324367dec265a5ea5822cee578420e9a73ce76a10b9003"), looks := false }, kinds := [], alts := [], laidByText := true, laidKinds := [.data, .data, .data], laidTests := true, laidLooks := .later }
def WalCallsUptoCardSaid : Prop := Claim7.holds Tryz.pinned (.plain (OpenSpec.upto walCallsSpec)) walCallsUptoCard

/-- THE SECOND FORM's CARD OF 'dasdlaw48.WalNumbers'. -/
def walNumbersUptoCard : Claim7 := { stood := { row := walNumbersUptoRow, standIns := [], harness := (true, "25721496a2f5e2d375324367dec265a5ea5822cee578420e9a73ce76a10b9003"), looks := false }, kinds := [], alts := [], laidByText := true, laidKinds := [.data, .data, .data], laidTests := true, laidLooks := .later }
def WalNumbersUptoCardSaid : Prop := Claim7.holds Tryz.pinned (.plain (OpenSpec.upto walNumbersSpec)) walNumbersUptoCard

/-- THE SECOND FORM's CARD OF 'dasdlaw48.WalShared'. -/
def walSharedUptoCard : Claim7 := { stood := { row := walSharedUptoRow, standIns := [], harness := (true, "25721496a2f5e2d375324367dec265a5ea5822cee578420e9a73ce76a10b9003"), looks := false }, kinds := [], alts := [], laidByText := true, laidKinds := [.data, .data, .data], laidTests := true, laidLooks := .later }
def WalSharedUptoCardSaid : Prop := Claim7.holds Tryz.pinned (.plain (OpenSpec.upto walSharedSpec)) walSharedUptoCard

/-- THE SECOND FORM's CARD OF 'dasdlaw48.WalRefuses'. -/
def walRefusesUptoCard : Claim7 := { stood := { row := walRefusesUptoRow, standIns := [], harness := (true, "25721496a2f5e2d375324367dec265a5ea5822cee578420e9a73ce76a10b9003"), looks := false }, kinds := [], alts := [], laidByText := true, laidKinds := [.data, .data, .data], laidTests := true, laidLooks := .later }
def WalRefusesUptoCardSaid : Prop := Claim7.holds Tryz.pinned (.plain (OpenSpec.upto walRefusesSpec)) walRefusesUptoCard

/-- THE SECOND FORM's CARD OF 'dasdlaw48.WalOpens'. -/
def walOpensUptoCard : Claim7 := { stood := { row := walOpensUptoRow, standIns := [], harness := (true, "25721496a2f5e2d375324367dec265a5ea5822cee578420e9a73ce76a10b9003"), looks := false }, kinds := [], alts := [], laidByText := true, laidKinds := [.data, .data, .data], laidTests := true, laidLooks := .later }
def WalOpensUptoCardSaid : Prop := Claim7.holds Tryz.pinned (.plain (OpenSpec.upto walOpensSpec)) walOpensUptoCard

/-- THE SECOND FORM's CARD OF 'dasdlaw48.WalCrash'. -/
def walCrashUptoCard : Claim7 := { stood := { row := walCrashUptoRow, standIns := [], harness := (true, "25721496a2f5e2d375324367dec265a5ea5822cee578420e9a73ce76a10b9003"), looks := false }, kinds := [], alts := [], laidByText := true, laidKinds := [.data, .data, .data], laidTests := true, laidLooks := .later }
def WalCrashUptoCardSaid : Prop := Claim7.holds Tryz.pinned (.plain (OpenSpec.upto walCrashSpec)) walCrashUptoCard

/-- THE SECOND FORM's CARD OF 'dasdlaw48.WalDamage'. -/
def walDamageUptoCard : Claim7 := { stood := { row := walDamageUptoRow, standIns := [], harness := (true, "25721496a2f5e2d375324367dec265a5ea5822cee578420e9a73ce76a10b9003"), looks := false }, kinds := [], alts := [], laidByText := true, laidKinds := [.data, .data, .data], laidTests := true, laidLooks := .later }
def WalDamageUptoCardSaid : Prop := Claim7.holds Tryz.pinned (.plain (OpenSpec.upto walDamageSpec)) walDamageUptoCard

/-- THE SECOND FORM's CARD OF 'dasdlaw48.WalVolume'. -/
def walVolumeUptoCard : Claim7 := { stood := { row := walVolumeUptoRow, standIns := [], harness := (true, "25721496a2f5e2d375324367dec265a5ea5822cee578420e9a73ce76a10b9003"), looks := false }, kinds := [], alts := [], laidByText := true, laidKinds := [.data, .data, .data], laidTests := true, laidLooks := .later }
def WalVolumeUptoCardSaid : Prop := Claim7.holds Tryz.pinned (.plain (OpenSpec.upto walVolumeSpec)) walVolumeUptoCard
end Rows
end Go.Proofs.YtjpkdhnponcciaaGreatDoor

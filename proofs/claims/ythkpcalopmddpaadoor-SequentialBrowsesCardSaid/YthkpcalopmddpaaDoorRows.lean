/-
  NARROWER THAN 'FOR EVERY INPUT', by the rows' own cells (each row's printed sentence says how): SequentialBuilds: laid · SequentialStrict: laid · SequentialSame: laid · SequentialGrows: laid · SequentialBrowses: laid.
  DERIVED. THE GIVEN ROWS OF THIS SEAT. 5 by the template 'for every input the law returns true; each argument reads behind the call as it read before'; 0 by the template 'total and deterministic' (their statements: YthkpcalopmddpaaDoorTotals.lean).
  GIVEN WITH THE SEED: the statements are not yours to turn. If you find one false, say at which input.
  Laid BY PROGRAM, IN A SANDBOX (cutbox-rows.mjs): the forced cells as the released guide's own fill.sh prints them over the translation 560f804c1c1beb71… (all of the seat's roots in one cut). By AI agents, Wed Nov 11 2026. No macro, syntax, notation, axiom, sorry.
-/
import Derived.Test.YthkpcalopmddpaaDoorChecked
import GoSem.Claim
import GoSem.ClaimJoined
import GoSem.ClaimMapViews
import Derived.JoinedTies
import Derived.KernelRfl
namespace Go.Proofs.YthkpcalopmddpaaDoor
/- THE CELL 'sum', in the pinned program and in every row, IS THE sha256 OF THE DUMP (.gsa) THAT YthkpcalopmddpaaDoorProg.lean LOADS. Nothing in Lean hashes anything: it is a label: what it is worth is what the hold of that sum in a sandbox is worth. -/
noncomputable def Tryd.pinned : Pinned := { name := "ythkpcalopmddpaadoor", sum := "560f804c1c1beb71d701f2e31e09e5fc3a26eead889c54232b47fbf2d3afcf88", checked := Tryd.checked }
namespace Rows
def none {H : Type} : Left H := { results := [], args := [] }

/- WHAT THE LISTED PACKAGE-LEVEL VARIABLES READ AS WHEN THE CALL BEGINS. Each datum BY PROGRAM (the guide's laid-datum.mjs) off the statement by which the dump's own 'gosem.cut.vars' lays the variable. In a bare row this is a premise. The card (YthkpcalopmddpaaDoorCards.lean) ties it to the program's text. -/
def laid_dasd_spanned_codes {H : Type} : DataW H := .agg [.agg [.lit (.bool false), .lit (.bool false)], .agg [.lit (.bool false), .lit (.bool true)], .agg [.lit (.bool true), .lit (.bool false)], .agg [.lit (.bool true), .lit (.bool true)]]

/-- 'dasdlaw13.SequentialBuilds': WHATEVER THE INPUT: true; the input reads as it did. -/
def sequentialBuildsSpec : ChangeSpec := { name := "sequentialBuilds", fn := fun _ => fun
  | [d1, d2, d3] => { results := [.lit (.bool true)], args := [d1, d2, d3] }
  | _ => none }
def sequentialBuildsRow : OpenClaim := { program := "ythkpcalopmddpaadoor", sum := "560f804c1c1beb71d701f2e31e09e5fc3a26eead889c54232b47fbf2d3afcf88", func := "dasd/dasdlaw13.SequentialBuilds", spec := "sequentialBuilds", inPlace := ["internal/abi.NoEscape", "internal/bytealg.MakeNoZero"], unfollowed := true, recurses := true, named := ["dasd/spanned.codes"], apart := false, laid := [("dasd/spanned.codes", laid_dasd_spanned_codes)] }
def SequentialBuildsSaid : Prop := sequentialBuildsRow.holds Tryd.pinned (OpenSpec.ofChange sequentialBuildsSpec)

/-- ITS FALSE NEIGHBOUR: 'it returns false'. Refute it at one input. -/
def sequentialBuildsWrong : ChangeSpec := { name := "sequentialBuilds", fn := fun _ => fun
  | [d1, d2, d3] => { results := [.lit (.bool false)], args := [d1, d2, d3] }
  | _ => none }
def SequentialBuildsWrongFalsely : Prop := sequentialBuildsRow.holds Tryd.pinned (OpenSpec.ofChange sequentialBuildsWrong)

/-- 'dasdlaw13.SequentialStrict': WHATEVER THE INPUT: true; the input reads as it did. -/
def sequentialStrictSpec : ChangeSpec := { name := "sequentialStrict", fn := fun _ => fun
  | [d1, d2] => { results := [.lit (.bool true)], args := [d1, d2] }
  | _ => none }
def sequentialStrictRow : OpenClaim := { program := "ythkpcalopmddpaadoor", sum := "560f804c1c1beb71d701f2e31e09e5fc3a26eead889c54232b47fbf2d3afcf88", func := "dasd/dasdlaw13.SequentialStrict", spec := "sequentialStrict", inPlace := ["internal/abi.NoEscape", "internal/bytealg.MakeNoZero"], unfollowed := true, recurses := true, named := ["dasd/spanned.codes"], apart := false, laid := [("dasd/spanned.codes", laid_dasd_spanned_codes)] }
def SequentialStrictSaid : Prop := sequentialStrictRow.holds Tryd.pinned (OpenSpec.ofChange sequentialStrictSpec)

/-- ITS FALSE NEIGHBOUR: 'it returns false'. Refute it at one input. -/
def sequentialStrictWrong : ChangeSpec := { name := "sequentialStrict", fn := fun _ => fun
  | [d1, d2] => { results := [.lit (.bool false)], args := [d1, d2] }
  | _ => none }
def SequentialStrictWrongFalsely : Prop := sequentialStrictRow.holds Tryd.pinned (OpenSpec.ofChange sequentialStrictWrong)

/-- 'dasdlaw13.SequentialSame': WHATEVER THE INPUT: true; the input reads as it did. -/
def sequentialSameSpec : ChangeSpec := { name := "sequentialSame", fn := fun _ => fun
  | [d1, d2] => { results := [.lit (.bool true)], args := [d1, d2] }
  | _ => none }
def sequentialSameRow : OpenClaim := { program := "ythkpcalopmddpaadoor", sum := "560f804c1c1beb71d701f2e31e09e5fc3a26eead889c54232b47fbf2d3afcf88", func := "dasd/dasdlaw13.SequentialSame", spec := "sequentialSame", inPlace := ["internal/abi.NoEscape", "internal/bytealg.MakeNoZero"], unfollowed := true, recurses := true, named := ["dasd/spanned.codes"], apart := false, laid := [("dasd/spanned.codes", laid_dasd_spanned_codes)] }
def SequentialSameSaid : Prop := sequentialSameRow.holds Tryd.pinned (OpenSpec.ofChange sequentialSameSpec)

/-- ITS FALSE NEIGHBOUR: 'it returns false'. Refute it at one input. -/
def sequentialSameWrong : ChangeSpec := { name := "sequentialSame", fn := fun _ => fun
  | [d1, d2] => { results := [.lit (.bool false)], args := [d1, d2] }
  | _ => none }
def SequentialSameWrongFalsely : Prop := sequentialSameRow.holds Tryd.pinned (OpenSpec.ofChange sequentialSameWrong)

/-- 'dasdlaw13.SequentialGrows': WHATEVER THE INPUT: true; the input reads as it did. -/
def sequentialGrowsSpec : ChangeSpec := { name := "sequentialGrows", fn := fun _ => fun
  | [d1, d2] => { results := [.lit (.bool true)], args := [d1, d2] }
  | _ => none }
def sequentialGrowsRow : OpenClaim := { program := "ythkpcalopmddpaadoor", sum := "560f804c1c1beb71d701f2e31e09e5fc3a26eead889c54232b47fbf2d3afcf88", func := "dasd/dasdlaw13.SequentialGrows", spec := "sequentialGrows", inPlace := ["internal/abi.NoEscape", "internal/bytealg.MakeNoZero"], unfollowed := true, recurses := true, named := ["dasd/spanned.codes"], apart := false, laid := [("dasd/spanned.codes", laid_dasd_spanned_codes)] }
def SequentialGrowsSaid : Prop := sequentialGrowsRow.holds Tryd.pinned (OpenSpec.ofChange sequentialGrowsSpec)

/-- ITS FALSE NEIGHBOUR: 'it returns false'. Refute it at one input. -/
def sequentialGrowsWrong : ChangeSpec := { name := "sequentialGrows", fn := fun _ => fun
  | [d1, d2] => { results := [.lit (.bool false)], args := [d1, d2] }
  | _ => none }
def SequentialGrowsWrongFalsely : Prop := sequentialGrowsRow.holds Tryd.pinned (OpenSpec.ofChange sequentialGrowsWrong)

/-- 'dasdlaw13.SequentialBrowses': WHATEVER THE INPUT: true; the input reads as it did. -/
def sequentialBrowsesSpec : ChangeSpec := { name := "sequentialBrowses", fn := fun _ => fun
  | [d1, d2, d3] => { results := [.lit (.bool true)], args := [d1, d2, d3] }
  | _ => none }
def sequentialBrowsesRow : OpenClaim := { program := "ythkpcalopmddpaadoor", sum := "560f804c1c1beb71d701f2e31e09e5fc3a26eead889c54232b47fbf2d3afcf88", func := "dasd/dasdlaw13.SequentialBrowses", spec := "sequentialBrowses", inPlace := ["internal/abi.NoEscape", "internal/bytealg.MakeNoZero"], unfollowed := true, recurses := true, named := ["dasd/spanned.codes"], apart := false, laid := [("dasd/spanned.codes", laid_dasd_spanned_codes)] }
def SequentialBrowsesSaid : Prop := sequentialBrowsesRow.holds Tryd.pinned (OpenSpec.ofChange sequentialBrowsesSpec)

/-- ITS FALSE NEIGHBOUR: 'it returns false'. Refute it at one input. -/
def sequentialBrowsesWrong : ChangeSpec := { name := "sequentialBrowses", fn := fun _ => fun
  | [d1, d2, d3] => { results := [.lit (.bool false)], args := [d1, d2, d3] }
  | _ => none }
def SequentialBrowsesWrongFalsely : Prop := sequentialBrowsesRow.holds Tryd.pinned (OpenSpec.ofChange sequentialBrowsesWrong)

/- THE SECOND FORM. 'bulk': how many values and letters a reading holds, each counted each time it is reached (what is shared counts as often as it is met; a slice's spare places count too). A statement '..UptoSaid' is the law's where the arguments, and the package variables that the reading takes, are together of bulk at most 1048576: NARROWER than '..Said'. Prove '..Said' where nothing that the law and all that it calls make is longer than what came in: it says more and counts as full. Else prove '..UptoSaid'. A law counts once. -/
mutual
def uptoBulk {H : Type} : DataW H → Nat
  | .lit (.string bytes) => bytes.length + 1
  | .lit _ => 1
  | .nil => 1
  | .ptr d => uptoBulk d + 1
  | .slice elems spare => uptoBulkAll elems + uptoBulkAll spare + 1
  | .agg parts => uptoBulkAll parts + 1
  | .iface _ d => uptoBulk d + 1
  | .map entries => uptoBulkEntries entries + 1
  | .held _ => 1
def uptoBulkAll {H : Type} : List (DataW H) → Nat
  | [] => 0
  | d :: r => uptoBulk d + uptoBulkAll r
def uptoBulkEntries {H : Type} : List (Lit × DataW H) → Nat
  | [] => 0
  | x :: r => uptoBulkEntry x + uptoBulkEntries r
def uptoBulkEntry {H : Type} : Lit × DataW H → Nat
  | (.string bytes, d) => bytes.length + uptoBulk d + 1
  | (_, d) => uptoBulk d + 1
 end
def uptoSmall : (H : Type) → List (DataW H) → Bool := fun _ ds => decide (uptoBulkAll ds ≤ 1048576)
def OpenSpec.upto (s : _root_.Go.ChangeSpec) : _root_.Go.OpenSpec := { _root_.Go.OpenSpec.ofChange s with cond := some uptoSmall }

/-- 'dasdlaw13.SequentialBuilds', WHERE WHAT IT READS IS OF BULK AT MOST 1048576: true; the input reads as it did. -/
def sequentialBuildsUptoRow : OpenClaim := { program := "ythkpcalopmddpaadoor", sum := "560f804c1c1beb71d701f2e31e09e5fc3a26eead889c54232b47fbf2d3afcf88", func := "dasd/dasdlaw13.SequentialBuilds", spec := "sequentialBuilds", inPlace := ["internal/abi.NoEscape", "internal/bytealg.MakeNoZero"], unfollowed := true, recurses := true, named := ["dasd/spanned.codes"], apart := false, laid := [("dasd/spanned.codes", laid_dasd_spanned_codes)], narrowed := true }
def SequentialBuildsUptoSaid : Prop := sequentialBuildsUptoRow.holds Tryd.pinned (OpenSpec.upto sequentialBuildsSpec)

/-- 'dasdlaw13.SequentialStrict', WHERE WHAT IT READS IS OF BULK AT MOST 1048576: true; the input reads as it did. -/
def sequentialStrictUptoRow : OpenClaim := { program := "ythkpcalopmddpaadoor", sum := "560f804c1c1beb71d701f2e31e09e5fc3a26eead889c54232b47fbf2d3afcf88", func := "dasd/dasdlaw13.SequentialStrict", spec := "sequentialStrict", inPlace := ["internal/abi.NoEscape", "internal/bytealg.MakeNoZero"], unfollowed := true, recurses := true, named := ["dasd/spanned.codes"], apart := false, laid := [("dasd/spanned.codes", laid_dasd_spanned_codes)], narrowed := true }
def SequentialStrictUptoSaid : Prop := sequentialStrictUptoRow.holds Tryd.pinned (OpenSpec.upto sequentialStrictSpec)

/-- 'dasdlaw13.SequentialSame', WHERE WHAT IT READS IS OF BULK AT MOST 1048576: true; the input reads as it did. -/
def sequentialSameUptoRow : OpenClaim := { program := "ythkpcalopmddpaadoor", sum := "560f804c1c1beb71d701f2e31e09e5fc3a26eead889c54232b47fbf2d3afcf88", func := "dasd/dasdlaw13.SequentialSame", spec := "sequentialSame", inPlace := ["internal/abi.NoEscape", "internal/bytealg.MakeNoZero"], unfollowed := true, recurses := true, named := ["dasd/spanned.codes"], apart := false, laid := [("dasd/spanned.codes", laid_dasd_spanned_codes)], narrowed := true }
def SequentialSameUptoSaid : Prop := sequentialSameUptoRow.holds Tryd.pinned (OpenSpec.upto sequentialSameSpec)

/-- 'dasdlaw13.SequentialGrows', WHERE WHAT IT READS IS OF BULK AT MOST 1048576: true; the input reads as it did. -/
def sequentialGrowsUptoRow : OpenClaim := { program := "ythkpcalopmddpaadoor", sum := "560f804c1c1beb71d701f2e31e09e5fc3a26eead889c54232b47fbf2d3afcf88", func := "dasd/dasdlaw13.SequentialGrows", spec := "sequentialGrows", inPlace := ["internal/abi.NoEscape", "internal/bytealg.MakeNoZero"], unfollowed := true, recurses := true, named := ["dasd/spanned.codes"], apart := false, laid := [("dasd/spanned.codes", laid_dasd_spanned_codes)], narrowed := true }
def SequentialGrowsUptoSaid : Prop := sequentialGrowsUptoRow.holds Tryd.pinned (OpenSpec.upto sequentialGrowsSpec)

/-- 'dasdlaw13.SequentialBrowses', WHERE WHAT IT READS IS OF BULK AT MOST 1048576: true; the input reads as it did. -/
def sequentialBrowsesUptoRow : OpenClaim := { program := "ythkpcalopmddpaadoor", sum := "560f804c1c1beb71d701f2e31e09e5fc3a26eead889c54232b47fbf2d3afcf88", func := "dasd/dasdlaw13.SequentialBrowses", spec := "sequentialBrowses", inPlace := ["internal/abi.NoEscape", "internal/bytealg.MakeNoZero"], unfollowed := true, recurses := true, named := ["dasd/spanned.codes"], apart := false, laid := [("dasd/spanned.codes", laid_dasd_spanned_codes)], narrowed := true }
def SequentialBrowsesUptoSaid : Prop := sequentialBrowsesUptoRow.holds Tryd.pinned (OpenSpec.upto sequentialBrowsesSpec)

end Rows
end Go.Proofs.YthkpcalopmddpaaDoor

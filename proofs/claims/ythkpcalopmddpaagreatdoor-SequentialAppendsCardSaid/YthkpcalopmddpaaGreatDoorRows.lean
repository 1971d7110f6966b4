/-
  NARROWER THAN 'FOR EVERY INPUT', by the rows' own cells (each row's printed sentence says how): SequentialReads: laid · SequentialGets: laid · SequentialAppends: laid.
  DERIVED. THE GIVEN ROWS OF THIS SEAT. 3 by the template 'for every input the law returns true; each argument reads behind the call as it read before'; 0 by the template 'total and deterministic' (their statements: YthkpcalopmddpaaGreatDoorTotals.lean).
  GIVEN WITH THE SEED: the statements are not yours to turn. If you find one false, say at which input.
  Laid BY PROGRAM, IN A SANDBOX (cutbox-rows.mjs): the forced cells as the released guide's own fill.sh prints them over the translation ebacb6ec3e43247e… (all of the seat's roots in one cut). By AI agents, Wed Nov 11 2026. No macro, syntax, notation, axiom, sorry.
-/
import Derived.Test.YthkpcalopmddpaaGreatDoorChecked
import GoSem.Claim
import GoSem.ClaimJoined
import GoSem.ClaimMapViews
import Derived.JoinedTies
import Derived.KernelRfl
namespace Go.Proofs.YthkpcalopmddpaaGreatDoor
/- THE CELL 'sum', in the pinned program and in every row, IS THE sha256 OF THE DUMP (.gsa) THAT YthkpcalopmddpaaGreatDoorProg.lean LOADS. Nothing in Lean hashes anything: it is a label: what it is worth is what the hold of that sum in a sandbox is worth. -/
noncomputable def Tryz.pinned : Pinned := { name := "ythkpcalopmddpaagreatdoor", sum := "ebacb6ec3e43247e7f3b07f8a79362dcb8b34bdf8be92134f1b997d864dc6cae", checked := Tryz.checked }
namespace Rows
def none {H : Type} : Left H := { results := [], args := [] }

/- WHAT THE LISTED PACKAGE-LEVEL VARIABLES READ AS WHEN THE CALL BEGINS. Each datum BY PROGRAM (the guide's laid-datum.mjs) off the statement by which the dump's own 'gosem.cut.vars' lays the variable. In a bare row this is a premise. The card (YthkpcalopmddpaaGreatDoorCards.lean) ties it to the program's text. -/
def laid_dasd_spanned_codes {H : Type} : DataW H := .agg [.agg [.lit (.bool false), .lit (.bool false)], .agg [.lit (.bool false), .lit (.bool true)], .agg [.lit (.bool true), .lit (.bool false)], .agg [.lit (.bool true), .lit (.bool true)]]

/-- 'dasdlaw13.SequentialReads': WHATEVER THE INPUT: true; the input reads as it did. -/
def sequentialReadsSpec : ChangeSpec := { name := "sequentialReads", fn := fun _ => fun
  | [d1, d2] => { results := [.lit (.bool true)], args := [d1, d2] }
  | _ => none }
def sequentialReadsRow : OpenClaim := { program := "ythkpcalopmddpaagreatdoor", sum := "ebacb6ec3e43247e7f3b07f8a79362dcb8b34bdf8be92134f1b997d864dc6cae", func := "dasd/dasdlaw13.SequentialReads", spec := "sequentialReads", inPlace := ["internal/abi.NoEscape", "internal/bytealg.MakeNoZero"], unfollowed := true, recurses := true, named := ["dasd/spanned.codes"], apart := false, laid := [("dasd/spanned.codes", laid_dasd_spanned_codes)] }
def SequentialReadsSaid : Prop := sequentialReadsRow.holds Tryz.pinned (OpenSpec.ofChange sequentialReadsSpec)

/-- ITS FALSE NEIGHBOUR: 'it returns false'. Refute it at one input. -/
def sequentialReadsWrong : ChangeSpec := { name := "sequentialReads", fn := fun _ => fun
  | [d1, d2] => { results := [.lit (.bool false)], args := [d1, d2] }
  | _ => none }
def SequentialReadsWrongFalsely : Prop := sequentialReadsRow.holds Tryz.pinned (OpenSpec.ofChange sequentialReadsWrong)

/-- 'dasdlaw13.SequentialGets': WHATEVER THE INPUT: true; the input reads as it did. -/
def sequentialGetsSpec : ChangeSpec := { name := "sequentialGets", fn := fun _ => fun
  | [d1, d2, d3] => { results := [.lit (.bool true)], args := [d1, d2, d3] }
  | _ => none }
def sequentialGetsRow : OpenClaim := { program := "ythkpcalopmddpaagreatdoor", sum := "ebacb6ec3e43247e7f3b07f8a79362dcb8b34bdf8be92134f1b997d864dc6cae", func := "dasd/dasdlaw13.SequentialGets", spec := "sequentialGets", inPlace := ["internal/abi.NoEscape", "internal/bytealg.MakeNoZero"], unfollowed := true, recurses := true, named := ["dasd/spanned.codes"], apart := false, laid := [("dasd/spanned.codes", laid_dasd_spanned_codes)] }
def SequentialGetsSaid : Prop := sequentialGetsRow.holds Tryz.pinned (OpenSpec.ofChange sequentialGetsSpec)

/-- ITS FALSE NEIGHBOUR: 'it returns false'. Refute it at one input. -/
def sequentialGetsWrong : ChangeSpec := { name := "sequentialGets", fn := fun _ => fun
  | [d1, d2, d3] => { results := [.lit (.bool false)], args := [d1, d2, d3] }
  | _ => none }
def SequentialGetsWrongFalsely : Prop := sequentialGetsRow.holds Tryz.pinned (OpenSpec.ofChange sequentialGetsWrong)

/-- 'dasdlaw13.SequentialAppends': WHATEVER THE INPUT: true; the input reads as it did. -/
def sequentialAppendsSpec : ChangeSpec := { name := "sequentialAppends", fn := fun _ => fun
  | [d1, d2, d3, d4] => { results := [.lit (.bool true)], args := [d1, d2, d3, d4] }
  | _ => none }
def sequentialAppendsRow : OpenClaim := { program := "ythkpcalopmddpaagreatdoor", sum := "ebacb6ec3e43247e7f3b07f8a79362dcb8b34bdf8be92134f1b997d864dc6cae", func := "dasd/dasdlaw13.SequentialAppends", spec := "sequentialAppends", inPlace := ["internal/abi.NoEscape", "internal/bytealg.MakeNoZero"], unfollowed := true, recurses := true, named := ["dasd/spanned.codes"], apart := false, laid := [("dasd/spanned.codes", laid_dasd_spanned_codes)] }
def SequentialAppendsSaid : Prop := sequentialAppendsRow.holds Tryz.pinned (OpenSpec.ofChange sequentialAppendsSpec)

/-- ITS FALSE NEIGHBOUR: 'it returns false'. Refute it at one input. -/
def sequentialAppendsWrong : ChangeSpec := { name := "sequentialAppends", fn := fun _ => fun
  | [d1, d2, d3, d4] => { results := [.lit (.bool false)], args := [d1, d2, d3, d4] }
  | _ => none }
def SequentialAppendsWrongFalsely : Prop := sequentialAppendsRow.holds Tryz.pinned (OpenSpec.ofChange sequentialAppendsWrong)

/- THE SECOND FORM. 'bulk': how many values and letters a reading holds, each counted each time it is reached (what is shared counts as often as it is met; a slice's spare places count too). A statement '..UptoSaid' is the law's where the arguments, and the package variables that the reading takes, are together of bulk at most 1048576: NARROWER than '..Said'. Prove '..Said' where nothing that the law and all that it calls make is longer than what came in: it says more and counts as full. Else prove '..UptoSaid'. A law counts once. -/
mutual
def uptoBulk {H : Type} : DataW H → Nat
  | .lit (.string bytes) => bytes.length + 1
  | .lit _ => 1
  | .nil => 1
  | .ptr d => uptoBulk d + 1
  | .slice elems spare => uptoBulkAll elems + uptoBulkAll spare + 1
  | .agg parts => uptoBulkAll parts + 1
  | .iface _ d => uptoBulk d + 1
  | .map entries => uptoBulkEntries entries + 1
  | .held _ => 1
def uptoBulkAll {H : Type} : List (DataW H) → Nat
  | [] => 0
  | d :: r => uptoBulk d + uptoBulkAll r
def uptoBulkEntries {H : Type} : List (Lit × DataW H) → Nat
  | [] => 0
  | x :: r => uptoBulkEntry x + uptoBulkEntries r
def uptoBulkEntry {H : Type} : Lit × DataW H → Nat
  | (.string bytes, d) => bytes.length + uptoBulk d + 1
  | (_, d) => uptoBulk d + 1
 end
def uptoSmall : (H : Type) → List (DataW H) → Bool := fun _ ds => decide (uptoBulkAll ds ≤ 1048576)
def OpenSpec.upto (s : _root_.Go.ChangeSpec) : _root_.Go.OpenSpec := { _root_.Go.OpenSpec.ofChange s with cond := some uptoSmall }

/-- 'dasdlaw13.SequentialReads', WHERE WHAT IT READS IS OF BULK AT MOST 1048576: true; the input reads as it did. -/
def sequentialReadsUptoRow : OpenClaim := { program := "ythkpcalopmddpaagreatdoor", sum := "ebacb6ec3e43247e7f3b07f8a79362dcb8b34bdf8be92134f1b997d864dc6cae", func := "dasd/dasdlaw13.SequentialReads", spec := "sequentialReads", inPlace := ["internal/abi.NoEscape", "internal/bytealg.MakeNoZero"], unfollowed := true, recurses := true, named := ["dasd/spanned.codes"], apart := false, laid := [("dasd/spanned.codes", laid_dasd_spanned_codes)], narrowed := true }
def SequentialReadsUptoSaid : Prop := sequentialReadsUptoRow.holds Tryz.pinned (OpenSpec.upto sequentialReadsSpec)

/-- 'dasdlaw13.SequentialGets', WHERE WHAT IT READS IS OF BULK AT MOST 1048576: true; the input reads as it did. -/
def sequentialGetsUptoRow : OpenClaim := { program := "ythkpcalopmddpaagreatdoor", sum := "ebacb6ec3e43247e7f3b07f8a79362dcb8b34bdf8be92134f1b997d864dc6cae", func := "dasd/dasdlaw13.SequentialGets", spec := "sequentialGets", inPlace := ["internal/abi.NoEscape", "internal/bytealg.MakeNoZero"], unfollowed := true, recurses := true, named := ["dasd/spanned.codes"], apart := false, laid := [("dasd/spanned.codes", laid_dasd_spanned_codes)], narrowed := true }
def SequentialGetsUptoSaid : Prop := sequentialGetsUptoRow.holds Tryz.pinned (OpenSpec.upto sequentialGetsSpec)

/-- 'dasdlaw13.SequentialAppends', WHERE WHAT IT READS IS OF BULK AT MOST 1048576: true; the input reads as it did. -/
def sequentialAppendsUptoRow : OpenClaim := { program := "ythkpcalopmddpaagreatdoor", sum := "ebacb6ec3e43247e7f3b07f8a79362dcb8b34bdf8be92134f1b997d864dc6cae", func := "dasd/dasdlaw13.SequentialAppends", spec := "sequentialAppends", inPlace := ["internal/abi.NoEscape", "internal/bytealg.MakeNoZero"], unfollowed := true, recurses := true, named := ["dasd/spanned.codes"], apart := false, laid := [("dasd/spanned.codes", laid_dasd_spanned_codes)], narrowed := true }
def SequentialAppendsUptoSaid : Prop := sequentialAppendsUptoRow.holds Tryz.pinned (OpenSpec.upto sequentialAppendsSpec)

end Rows
end Go.Proofs.YthkpcalopmddpaaGreatDoor

/-
  NARROWER THAN 'FOR EVERY INPUT', by the rows' own cells (each row's printed sentence says how): ForwardDoes: laid · ForwardValid: laid · ForwardLaws: laid · ForwardRolls: laid · ForwardRestores: laid · ForwardDumps: laid · ForwardReads: laid.
  DERIVED. THE GIVEN ROWS OF THIS SEAT. 7 by the template 'for every input the law returns true; each argument reads behind the call as it read before'; 0 by the template 'total and deterministic' (their statements: YtckpepfkfjdnhaaGreatDoorTotals.lean).
  GIVEN WITH THE SEED: the statements are not yours to turn. If you find one false, say at which input.
  Laid BY PROGRAM, IN A SANDBOX (cutbox-rows.mjs): the forced cells as the released guide's own fill.sh prints them over the translation aa05d69af86cac44… (all of the seat's roots in one cut). By AI agents, Wed Nov 11 2026. No macro, syntax, notation, axiom, sorry.
-/
import Derived.Test.YtckpepfkfjdnhaaGreatDoorChecked
import GoSem.Claim
import GoSem.ClaimJoined
import GoSem.ClaimMapViews
import Derived.JoinedTies
import Derived.KernelRfl
namespace Go.Proofs.YtckpepfkfjdnhaaGreatDoor
/- THE CELL 'sum', in the pinned program and in every row, IS THE sha256 OF THE DUMP (.gsa) THAT YtckpepfkfjdnhaaGreatDoorProg.lean LOADS. Nothing in Lean hashes anything: it is a label: what it is worth is what the hold of that sum in a sandbox is worth. -/
noncomputable def Tryz.pinned : Pinned := { name := "ytckpepfkfjdnhaagreatdoor", sum := "aa05d69af86cac447e8f122f453c29b633ea93356b4d49afe008eceda8de7113", checked := Tryz.checked }
namespace Rows
def none {H : Type} : Left H := { results := [], args := [] }

/- WHAT THE LISTED PACKAGE-LEVEL VARIABLES READ AS WHEN THE CALL BEGINS. Each datum BY PROGRAM (the guide's laid-datum.mjs) off the statement by which the dump's own 'gosem.cut.vars' lays the variable. In a bare row this is a premise. The card (YtckpepfkfjdnhaaGreatDoorCards.lean) ties it to the program's text. -/
def laid_math_bits_deBruijn32tab {H : Type} : DataW H := .agg [.lit (.int .u8 0), .lit (.int .u8 1), .lit (.int .u8 28), .lit (.int .u8 2), .lit (.int .u8 29), .lit (.int .u8 14), .lit (.int .u8 24), .lit (.int .u8 3), .lit (.int .u8 30), .lit (.int .u8 22), .lit (.int .u8 20), .lit (.int .u8 15), .lit (.int .u8 25), .lit (.int .u8 17), .lit (.int .u8 4), .lit (.int .u8 8), .lit (.int .u8 31), .lit (.int .u8 27), .lit (.int .u8 13), .lit (.int .u8 23), .lit (.int .u8 21), .lit (.int .u8 19), .lit (.int .u8 16), .lit (.int .u8 7), .lit (.int .u8 26), .lit (.int .u8 12), .lit (.int .u8 18), .lit (.int .u8 6), .lit (.int .u8 11), .lit (.int .u8 5), .lit (.int .u8 10), .lit (.int .u8 9)]
def laid_math_bits_deBruijn64tab {H : Type} : DataW H := .agg [.lit (.int .u8 0), .lit (.int .u8 1), .lit (.int .u8 56), .lit (.int .u8 2), .lit (.int .u8 57), .lit (.int .u8 49), .lit (.int .u8 28), .lit (.int .u8 3), .lit (.int .u8 61), .lit (.int .u8 58), .lit (.int .u8 42), .lit (.int .u8 50), .lit (.int .u8 38), .lit (.int .u8 29), .lit (.int .u8 17), .lit (.int .u8 4), .lit (.int .u8 62), .lit (.int .u8 47), .lit (.int .u8 59), .lit (.int .u8 36), .lit (.int .u8 45), .lit (.int .u8 43), .lit (.int .u8 51), .lit (.int .u8 22), .lit (.int .u8 53), .lit (.int .u8 39), .lit (.int .u8 33), .lit (.int .u8 30), .lit (.int .u8 24), .lit (.int .u8 18), .lit (.int .u8 12), .lit (.int .u8 5), .lit (.int .u8 63), .lit (.int .u8 55), .lit (.int .u8 48), .lit (.int .u8 27), .lit (.int .u8 60), .lit (.int .u8 41), .lit (.int .u8 37), .lit (.int .u8 16), .lit (.int .u8 46), .lit (.int .u8 35), .lit (.int .u8 44), .lit (.int .u8 21), .lit (.int .u8 52), .lit (.int .u8 32), .lit (.int .u8 23), .lit (.int .u8 11), .lit (.int .u8 54), .lit (.int .u8 26), .lit (.int .u8 40), .lit (.int .u8 15), .lit (.int .u8 34), .lit (.int .u8 20), .lit (.int .u8 31), .lit (.int .u8 10), .lit (.int .u8 25), .lit (.int .u8 14), .lit (.int .u8 19), .lit (.int .u8 9), .lit (.int .u8 13), .lit (.int .u8 8), .lit (.int .u8 7), .lit (.int .u8 6)]
def laid_internal_strconv_uint64pow10 {H : Type} : DataW H := .agg [.lit (.int .u64 1), .lit (.int .u64 10), .lit (.int .u64 100), .lit (.int .u64 1000), .lit (.int .u64 10000), .lit (.int .u64 100000), .lit (.int .u64 1000000), .lit (.int .u64 10000000), .lit (.int .u64 100000000), .lit (.int .u64 1000000000), .lit (.int .u64 10000000000), .lit (.int .u64 100000000000), .lit (.int .u64 1000000000000), .lit (.int .u64 10000000000000), .lit (.int .u64 100000000000000), .lit (.int .u64 1000000000000000), .lit (.int .u64 10000000000000000), .lit (.int .u64 100000000000000000), .lit (.int .u64 1000000000000000000), .lit (.int .u64 10000000000000000000)]
def laid_dasd_spanned_codes {H : Type} : DataW H := .agg [.agg [.lit (.bool false), .lit (.bool false)], .agg [.lit (.bool false), .lit (.bool true)], .agg [.lit (.bool true), .lit (.bool false)], .agg [.lit (.bool true), .lit (.bool true)]]

/-- 'dasdlaw49.ForwardDoes': WHATEVER THE INPUT: true; the input reads as it did. -/
def forwardDoesSpec : ChangeSpec := { name := "forwardDoes", fn := fun _ => fun
  | [d1, d2] => { results := [.lit (.bool true)], args := [d1, d2] }
  | _ => none }
def forwardDoesRow : OpenClaim := { program := "ytckpepfkfjdnhaagreatdoor", sum := "aa05d69af86cac447e8f122f453c29b633ea93356b4d49afe008eceda8de7113", func := "dasd/dasdlaw49.ForwardDoes", spec := "forwardDoes", inPlace := ["internal/abi.NoEscape", "internal/bytealg.MakeNoZero", "slices.overlaps[dasd/api.Pair]"], unfollowed := true, recurses := true, named := ["dasd/spanned.codes", "internal/strconv.uint64pow10", "math/bits.deBruijn32tab", "math/bits.deBruijn64tab"], apart := false, laid := [("math/bits.deBruijn32tab", laid_math_bits_deBruijn32tab), ("math/bits.deBruijn64tab", laid_math_bits_deBruijn64tab), ("internal/strconv.uint64pow10", laid_internal_strconv_uint64pow10), ("dasd/spanned.codes", laid_dasd_spanned_codes)] }
def ForwardDoesSaid : Prop := forwardDoesRow.holds Tryz.pinned (OpenSpec.ofChange forwardDoesSpec)

/-- ITS FALSE NEIGHBOUR: 'it returns false'. Refute it at one input. -/
def forwardDoesWrong : ChangeSpec := { name := "forwardDoes", fn := fun _ => fun
  | [d1, d2] => { results := [.lit (.bool false)], args := [d1, d2] }
  | _ => none }
def ForwardDoesWrongFalsely : Prop := forwardDoesRow.holds Tryz.pinned (OpenSpec.ofChange forwardDoesWrong)

/-- 'dasdlaw49.ForwardValid': WHATEVER THE INPUT: true; the input reads as it did. -/
def forwardValidSpec : ChangeSpec := { name := "forwardValid", fn := fun _ => fun
  | [d1, d2] => { results := [.lit (.bool true)], args := [d1, d2] }
  | _ => none }
def forwardValidRow : OpenClaim := { program := "ytckpepfkfjdnhaagreatdoor", sum := "aa05d69af86cac447e8f122f453c29b633ea93356b4d49afe008eceda8de7113", func := "dasd/dasdlaw49.ForwardValid", spec := "forwardValid", inPlace := ["internal/abi.NoEscape", "internal/bytealg.MakeNoZero", "slices.overlaps[dasd/api.Pair]"], unfollowed := true, recurses := true, named := ["dasd/spanned.codes", "internal/strconv.uint64pow10", "math/bits.deBruijn32tab", "math/bits.deBruijn64tab"], apart := false, laid := [("math/bits.deBruijn32tab", laid_math_bits_deBruijn32tab), ("math/bits.deBruijn64tab", laid_math_bits_deBruijn64tab), ("internal/strconv.uint64pow10", laid_internal_strconv_uint64pow10), ("dasd/spanned.codes", laid_dasd_spanned_codes)] }
def ForwardValidSaid : Prop := forwardValidRow.holds Tryz.pinned (OpenSpec.ofChange forwardValidSpec)

/-- ITS FALSE NEIGHBOUR: 'it returns false'. Refute it at one input. -/
def forwardValidWrong : ChangeSpec := { name := "forwardValid", fn := fun _ => fun
  | [d1, d2] => { results := [.lit (.bool false)], args := [d1, d2] }
  | _ => none }
def ForwardValidWrongFalsely : Prop := forwardValidRow.holds Tryz.pinned (OpenSpec.ofChange forwardValidWrong)

/-- 'dasdlaw49.ForwardLaws': WHATEVER THE INPUT: true; the input reads as it did. -/
def forwardLawsSpec : ChangeSpec := { name := "forwardLaws", fn := fun _ => fun
  | [d1, d2] => { results := [.lit (.bool true)], args := [d1, d2] }
  | _ => none }
def forwardLawsRow : OpenClaim := { program := "ytckpepfkfjdnhaagreatdoor", sum := "aa05d69af86cac447e8f122f453c29b633ea93356b4d49afe008eceda8de7113", func := "dasd/dasdlaw49.ForwardLaws", spec := "forwardLaws", inPlace := ["internal/abi.NoEscape", "internal/bytealg.MakeNoZero", "slices.overlaps[dasd/api.Pair]"], unfollowed := true, recurses := true, named := ["dasd/spanned.codes", "internal/strconv.uint64pow10", "math/bits.deBruijn32tab", "math/bits.deBruijn64tab"], apart := false, laid := [("math/bits.deBruijn32tab", laid_math_bits_deBruijn32tab), ("math/bits.deBruijn64tab", laid_math_bits_deBruijn64tab), ("internal/strconv.uint64pow10", laid_internal_strconv_uint64pow10), ("dasd/spanned.codes", laid_dasd_spanned_codes)] }
def ForwardLawsSaid : Prop := forwardLawsRow.holds Tryz.pinned (OpenSpec.ofChange forwardLawsSpec)

/-- ITS FALSE NEIGHBOUR: 'it returns false'. Refute it at one input. -/
def forwardLawsWrong : ChangeSpec := { name := "forwardLaws", fn := fun _ => fun
  | [d1, d2] => { results := [.lit (.bool false)], args := [d1, d2] }
  | _ => none }
def ForwardLawsWrongFalsely : Prop := forwardLawsRow.holds Tryz.pinned (OpenSpec.ofChange forwardLawsWrong)

/-- 'dasdlaw49.ForwardRolls': WHATEVER THE INPUT: true; the input reads as it did. -/
def forwardRollsSpec : ChangeSpec := { name := "forwardRolls", fn := fun _ => fun
  | [d1, d2] => { results := [.lit (.bool true)], args := [d1, d2] }
  | _ => none }
def forwardRollsRow : OpenClaim := { program := "ytckpepfkfjdnhaagreatdoor", sum := "aa05d69af86cac447e8f122f453c29b633ea93356b4d49afe008eceda8de7113", func := "dasd/dasdlaw49.ForwardRolls", spec := "forwardRolls", inPlace := ["internal/abi.NoEscape", "internal/bytealg.MakeNoZero", "slices.overlaps[dasd/api.Pair]"], unfollowed := true, recurses := true, named := ["dasd/spanned.codes", "internal/strconv.uint64pow10", "math/bits.deBruijn32tab", "math/bits.deBruijn64tab"], apart := false, laid := [("math/bits.deBruijn32tab", laid_math_bits_deBruijn32tab), ("math/bits.deBruijn64tab", laid_math_bits_deBruijn64tab), ("internal/strconv.uint64pow10", laid_internal_strconv_uint64pow10), ("dasd/spanned.codes", laid_dasd_spanned_codes)] }
def ForwardRollsSaid : Prop := forwardRollsRow.holds Tryz.pinned (OpenSpec.ofChange forwardRollsSpec)

/-- ITS FALSE NEIGHBOUR: 'it returns false'. Refute it at one input. -/
def forwardRollsWrong : ChangeSpec := { name := "forwardRolls", fn := fun _ => fun
  | [d1, d2] => { results := [.lit (.bool false)], args := [d1, d2] }
  | _ => none }
def ForwardRollsWrongFalsely : Prop := forwardRollsRow.holds Tryz.pinned (OpenSpec.ofChange forwardRollsWrong)

/-- 'dasdlaw49.ForwardRestores': WHATEVER THE INPUT: true; the input reads as it did. -/
def forwardRestoresSpec : ChangeSpec := { name := "forwardRestores", fn := fun _ => fun
  | [d] => { results := [.lit (.bool true)], args := [d] }
  | _ => none }
def forwardRestoresRow : OpenClaim := { program := "ytckpepfkfjdnhaagreatdoor", sum := "aa05d69af86cac447e8f122f453c29b633ea93356b4d49afe008eceda8de7113", func := "dasd/dasdlaw49.ForwardRestores", spec := "forwardRestores", inPlace := ["internal/abi.NoEscape", "internal/bytealg.MakeNoZero", "slices.overlaps[dasd/api.Pair]"], unfollowed := true, recurses := true, named := ["dasd/spanned.codes", "internal/strconv.uint64pow10", "math/bits.deBruijn32tab", "math/bits.deBruijn64tab"], apart := false, laid := [("math/bits.deBruijn32tab", laid_math_bits_deBruijn32tab), ("math/bits.deBruijn64tab", laid_math_bits_deBruijn64tab), ("internal/strconv.uint64pow10", laid_internal_strconv_uint64pow10), ("dasd/spanned.codes", laid_dasd_spanned_codes)] }
def ForwardRestoresSaid : Prop := forwardRestoresRow.holds Tryz.pinned (OpenSpec.ofChange forwardRestoresSpec)

/-- ITS FALSE NEIGHBOUR: 'it returns false'. Refute it at one input. -/
def forwardRestoresWrong : ChangeSpec := { name := "forwardRestores", fn := fun _ => fun
  | [d] => { results := [.lit (.bool false)], args := [d] }
  | _ => none }
def ForwardRestoresWrongFalsely : Prop := forwardRestoresRow.holds Tryz.pinned (OpenSpec.ofChange forwardRestoresWrong)

/-- 'dasdlaw49.ForwardDumps': WHATEVER THE INPUT: true; the input reads as it did. -/
def forwardDumpsSpec : ChangeSpec := { name := "forwardDumps", fn := fun _ => fun
  | [d1, d2, d3] => { results := [.lit (.bool true)], args := [d1, d2, d3] }
  | _ => none }
def forwardDumpsRow : OpenClaim := { program := "ytckpepfkfjdnhaagreatdoor", sum := "aa05d69af86cac447e8f122f453c29b633ea93356b4d49afe008eceda8de7113", func := "dasd/dasdlaw49.ForwardDumps", spec := "forwardDumps", inPlace := ["internal/abi.NoEscape", "internal/bytealg.MakeNoZero", "slices.overlaps[dasd/api.Pair]"], unfollowed := true, recurses := true, named := ["dasd/spanned.codes", "internal/strconv.uint64pow10", "math/bits.deBruijn32tab", "math/bits.deBruijn64tab"], apart := false, laid := [("math/bits.deBruijn32tab", laid_math_bits_deBruijn32tab), ("math/bits.deBruijn64tab", laid_math_bits_deBruijn64tab), ("internal/strconv.uint64pow10", laid_internal_strconv_uint64pow10), ("dasd/spanned.codes", laid_dasd_spanned_codes)] }
def ForwardDumpsSaid : Prop := forwardDumpsRow.holds Tryz.pinned (OpenSpec.ofChange forwardDumpsSpec)

/-- ITS FALSE NEIGHBOUR: 'it returns false'. Refute it at one input. -/
def forwardDumpsWrong : ChangeSpec := { name := "forwardDumps", fn := fun _ => fun
  | [d1, d2, d3] => { results := [.lit (.bool false)], args := [d1, d2, d3] }
  | _ => none }
def ForwardDumpsWrongFalsely : Prop := forwardDumpsRow.holds Tryz.pinned (OpenSpec.ofChange forwardDumpsWrong)

/-- 'dasdlaw49.ForwardReads': WHATEVER THE INPUT: true; the input reads as it did. -/
def forwardReadsSpec : ChangeSpec := { name := "forwardReads", fn := fun _ => fun
  | [d1, d2, d3] => { results := [.lit (.bool true)], args := [d1, d2, d3] }
  | _ => none }
def forwardReadsRow : OpenClaim := { program := "ytckpepfkfjdnhaagreatdoor", sum := "aa05d69af86cac447e8f122f453c29b633ea93356b4d49afe008eceda8de7113", func := "dasd/dasdlaw49.ForwardReads", spec := "forwardReads", inPlace := ["internal/abi.NoEscape", "internal/bytealg.MakeNoZero", "slices.overlaps[dasd/api.Pair]"], unfollowed := true, recurses := true, named := ["dasd/spanned.codes", "internal/strconv.uint64pow10", "math/bits.deBruijn32tab", "math/bits.deBruijn64tab"], apart := false, laid := [("math/bits.deBruijn32tab", laid_math_bits_deBruijn32tab), ("math/bits.deBruijn64tab", laid_math_bits_deBruijn64tab), ("internal/strconv.uint64pow10", laid_internal_strconv_uint64pow10), ("dasd/spanned.codes", laid_dasd_spanned_codes)] }
def ForwardReadsSaid : Prop := forwardReadsRow.holds Tryz.pinned (OpenSpec.ofChange forwardReadsSpec)

/-- ITS FALSE NEIGHBOUR: 'it returns false'. Refute it at one input. -/
def forwardReadsWrong : ChangeSpec := { name := "forwardReads", fn := fun _ => fun
  | [d1, d2, d3] => { results := [.lit (.bool false)], args := [d1, d2, d3] }
  | _ => none }
def ForwardReadsWrongFalsely : Prop := forwardReadsRow.holds Tryz.pinned (OpenSpec.ofChange forwardReadsWrong)

/- THE SECOND FORM. 'bulk': how many values and letters a reading holds, each counted each time it is reached (what is shared counts as often as it is met; a slice's spare places count too). A statement '..UptoSaid' is the law's where the arguments, and the package variables that the reading takes, are together of bulk at most 1048576: NARROWER than '..Said'. Prove '..Said' where nothing that the law and all that it calls make is longer than what came in: it says more and counts as full. Else prove '..UptoSaid'. A law counts once. -/
mutual
def uptoBulk {H : Type} : DataW H → Nat
  | .lit (.string bytes) => bytes.length + 1
  | .lit _ => 1
  | .nil => 1
  | .ptr d => uptoBulk d + 1
  | .slice elems spare => uptoBulkAll elems + uptoBulkAll spare + 1
  | .agg parts => uptoBulkAll parts + 1
  | .iface _ d => uptoBulk d + 1
  | .map entries => uptoBulkEntries entries + 1
  | .held _ => 1
def uptoBulkAll {H : Type} : List (DataW H) → Nat
  | [] => 0
  | d :: r => uptoBulk d + uptoBulkAll r
def uptoBulkEntries {H : Type} : List (Lit × DataW H) → Nat
  | [] => 0
  | x :: r => uptoBulkEntry x + uptoBulkEntries r
def uptoBulkEntry {H : Type} : Lit × DataW H → Nat
  | (.string bytes, d) => bytes.length + uptoBulk d + 1
  | (_, d) => uptoBulk d + 1
 end
def uptoSmall : (H : Type) → List (DataW H) → Bool := fun _ ds => decide (uptoBulkAll ds ≤ 1048576)
def OpenSpec.upto (s : _root_.Go.ChangeSpec) : _root_.Go.OpenSpec := { _root_.Go.OpenSpec.ofChange s with cond := some uptoSmall }

/-- 'dasdlaw49.ForwardDoes', WHERE WHAT IT READS IS OF BULK AT MOST 1048576: true; the input reads as it did. -/
def forwardDoesUptoRow : OpenClaim := { program := "ytckpepfkfjdnhaagreatdoor", sum := "aa05d69af86cac447e8f122f453c29b633ea93356b4d49afe008eceda8de7113", func := "dasd/dasdlaw49.ForwardDoes", spec := "forwardDoes", inPlace := ["internal/abi.NoEscape", "internal/bytealg.MakeNoZero", "slices.overlaps[dasd/api.Pair]"], unfollowed := true, recurses := true, named := ["dasd/spanned.codes", "internal/strconv.uint64pow10", "math/bits.deBruijn32tab", "math/bits.deBruijn64tab"], apart := false, laid := [("math/bits.deBruijn32tab", laid_math_bits_deBruijn32tab), ("math/bits.deBruijn64tab", laid_math_bits_deBruijn64tab), ("internal/strconv.uint64pow10", laid_internal_strconv_uint64pow10), ("dasd/spanned.codes", laid_dasd_spanned_codes)], narrowed := true }
def ForwardDoesUptoSaid : Prop := forwardDoesUptoRow.holds Tryz.pinned (OpenSpec.upto forwardDoesSpec)

/-- 'dasdlaw49.ForwardValid', WHERE WHAT IT READS IS OF BULK AT MOST 1048576: true; the input reads as it did. -/
def forwardValidUptoRow : OpenClaim := { program := "ytckpepfkfjdnhaagreatdoor", sum := "aa05d69af86cac447e8f122f453c29b633ea93356b4d49afe008eceda8de7113", func := "dasd/dasdlaw49.ForwardValid", spec := "forwardValid", inPlace := ["internal/abi.NoEscape", "internal/bytealg.MakeNoZero", "slices.overlaps[dasd/api.Pair]"], unfollowed := true, recurses := true, named := ["dasd/spanned.codes", "internal/strconv.uint64pow10", "math/bits.deBruijn32tab", "math/bits.deBruijn64tab"], apart := false, laid := [("math/bits.deBruijn32tab", laid_math_bits_deBruijn32tab), ("math/bits.deBruijn64tab", laid_math_bits_deBruijn64tab), ("internal/strconv.uint64pow10", laid_internal_strconv_uint64pow10), ("dasd/spanned.codes", laid_dasd_spanned_codes)], narrowed := true }
def ForwardValidUptoSaid : Prop := forwardValidUptoRow.holds Tryz.pinned (OpenSpec.upto forwardValidSpec)

/-- 'dasdlaw49.ForwardLaws', WHERE WHAT IT READS IS OF BULK AT MOST 1048576: true; the input reads as it did. -/
def forwardLawsUptoRow : OpenClaim := { program := "ytckpepfkfjdnhaagreatdoor", sum := "aa05d69af86cac447e8f122f453c29b633ea93356b4d49afe008eceda8de7113", func := "dasd/dasdlaw49.ForwardLaws", spec := "forwardLaws", inPlace := ["internal/abi.NoEscape", "internal/bytealg.MakeNoZero", "slices.overlaps[dasd/api.Pair]"], unfollowed := true, recurses := true, named := ["dasd/spanned.codes", "internal/strconv.uint64pow10", "math/bits.deBruijn32tab", "math/bits.deBruijn64tab"], apart := false, laid := [("math/bits.deBruijn32tab", laid_math_bits_deBruijn32tab), ("math/bits.deBruijn64tab", laid_math_bits_deBruijn64tab), ("internal/strconv.uint64pow10", laid_internal_strconv_uint64pow10), ("dasd/spanned.codes", laid_dasd_spanned_codes)], narrowed := true }
def ForwardLawsUptoSaid : Prop := forwardLawsUptoRow.holds Tryz.pinned (OpenSpec.upto forwardLawsSpec)

/-- 'dasdlaw49.ForwardRolls', WHERE WHAT IT READS IS OF BULK AT MOST 1048576: true; the input reads as it did. -/
def forwardRollsUptoRow : OpenClaim := { program := "ytckpepfkfjdnhaagreatdoor", sum := "aa05d69af86cac447e8f122f453c29b633ea93356b4d49afe008eceda8de7113", func := "dasd/dasdlaw49.ForwardRolls", spec := "forwardRolls", inPlace := ["internal/abi.NoEscape", "internal/bytealg.MakeNoZero", "slices.overlaps[dasd/api.Pair]"], unfollowed := true, recurses := true, named := ["dasd/spanned.codes", "internal/strconv.uint64pow10", "math/bits.deBruijn32tab", "math/bits.deBruijn64tab"], apart := false, laid := [("math/bits.deBruijn32tab", laid_math_bits_deBruijn32tab), ("math/bits.deBruijn64tab", laid_math_bits_deBruijn64tab), ("internal/strconv.uint64pow10", laid_internal_strconv_uint64pow10), ("dasd/spanned.codes", laid_dasd_spanned_codes)], narrowed := true }
def ForwardRollsUptoSaid : Prop := forwardRollsUptoRow.holds Tryz.pinned (OpenSpec.upto forwardRollsSpec)

/-- 'dasdlaw49.ForwardRestores', WHERE WHAT IT READS IS OF BULK AT MOST 1048576: true; the input reads as it did. -/
def forwardRestoresUptoRow : OpenClaim := { program := "ytckpepfkfjdnhaagreatdoor", sum := "aa05d69af86cac447e8f122f453c29b633ea93356b4d49afe008eceda8de7113", func := "dasd/dasdlaw49.ForwardRestores", spec := "forwardRestores", inPlace := ["internal/abi.NoEscape", "internal/bytealg.MakeNoZero", "slices.overlaps[dasd/api.Pair]"], unfollowed := true, recurses := true, named := ["dasd/spanned.codes", "internal/strconv.uint64pow10", "math/bits.deBruijn32tab", "math/bits.deBruijn64tab"], apart := false, laid := [("math/bits.deBruijn32tab", laid_math_bits_deBruijn32tab), ("math/bits.deBruijn64tab", laid_math_bits_deBruijn64tab), ("internal/strconv.uint64pow10", laid_internal_strconv_uint64pow10), ("dasd/spanned.codes", laid_dasd_spanned_codes)], narrowed := true }
def ForwardRestoresUptoSaid : Prop := forwardRestoresUptoRow.holds Tryz.pinned (OpenSpec.upto forwardRestoresSpec)

/-- 'dasdlaw49.ForwardDumps', WHERE WHAT IT READS IS OF BULK AT MOST 1048576: true; the input reads as it did. -/
def forwardDumpsUptoRow : OpenClaim := { program := "ytckpepfkfjdnhaagreatdoor", sum := "aa05d69af86cac447e8f122f453c29b633ea93356b4d49afe008eceda8de7113", func := "dasd/dasdlaw49.ForwardDumps", spec := "forwardDumps", inPlace := ["internal/abi.NoEscape", "internal/bytealg.MakeNoZero", "slices.overlaps[dasd/api.Pair]"], unfollowed := true, recurses := true, named := ["dasd/spanned.codes", "internal/strconv.uint64pow10", "math/bits.deBruijn32tab", "math/bits.deBruijn64tab"], apart := false, laid := [("math/bits.deBruijn32tab", laid_math_bits_deBruijn32tab), ("math/bits.deBruijn64tab", laid_math_bits_deBruijn64tab), ("internal/strconv.uint64pow10", laid_internal_strconv_uint64pow10), ("dasd/spanned.codes", laid_dasd_spanned_codes)], narrowed := true }
def ForwardDumpsUptoSaid : Prop := forwardDumpsUptoRow.holds Tryz.pinned (OpenSpec.upto forwardDumpsSpec)

/-- 'dasdlaw49.ForwardReads', WHERE WHAT IT READS IS OF BULK AT MOST 1048576: true; the input reads as it did. -/
def forwardReadsUptoRow : OpenClaim := { program := "ytckpepfkfjdnhaagreatdoor", sum := "aa05d69af86cac447e8f122f453c29b633ea93356b4d49afe008eceda8de7113", func := "dasd/dasdlaw49.ForwardReads", spec := "forwardReads", inPlace := ["internal/abi.NoEscape", "internal/bytealg.MakeNoZero", "slices.overlaps[dasd/api.Pair]"], unfollowed := true, recurses := true, named := ["dasd/spanned.codes", "internal/strconv.uint64pow10", "math/bits.deBruijn32tab", "math/bits.deBruijn64tab"], apart := false, laid := [("math/bits.deBruijn32tab", laid_math_bits_deBruijn32tab), ("math/bits.deBruijn64tab", laid_math_bits_deBruijn64tab), ("internal/strconv.uint64pow10", laid_internal_strconv_uint64pow10), ("dasd/spanned.codes", laid_dasd_spanned_codes)], narrowed := true }
def ForwardReadsUptoSaid : Prop := forwardReadsUptoRow.holds Tryz.pinned (OpenSpec.upto forwardReadsSpec)

end Rows
end Go.Proofs.YtckpepfkfjdnhaaGreatDoor

/-
  NARROWER THAN 'FOR EVERY INPUT', by the rows' own cells (each row's printed sentence says how): UnitCommits: laid · UnitCalls: laid · UnitHides: laid · UnitIsolated: laid · UnitLarge: laid · UnitAlternates: laid.
  DERIVED. THE GIVEN ROWS OF THIS SEAT. 6 by the template 'for every input the law returns true; each argument reads behind the call as it read before'; 0 by the template 'total and deterministic' (their statements: YtcefkngblddpoaaGreatDoorTotals.lean).
  GIVEN WITH THE SEED: the statements are not yours to turn. If you find one false, say at which input.
  Laid BY PROGRAM, IN A SANDBOX (cutbox-rows.mjs): the forced cells as the released guide's own fill.sh prints them over the translation 6a2df825032c7040… (all of the seat's roots in one cut). By AI agents, Wed Nov 11 2026. No macro, syntax, notation, axiom, sorry.
-/
import Derived.Test.YtcefkngblddpoaaGreatDoorChecked
import GoSem.Claim
import GoSem.ClaimJoined
import GoSem.ClaimMapViews
import Derived.JoinedTies
import Derived.KernelRfl
namespace Go.Proofs.YtcefkngblddpoaaGreatDoor
/- THE CELL 'sum', in the pinned program and in every row, IS THE sha256 OF THE DUMP (.gsa) THAT YtcefkngblddpoaaGreatDoorProg.lean LOADS. Nothing in Lean hashes anything: it is a label: what it is worth is what the hold of that sum in a sandbox is worth. -/
noncomputable def Tryz.pinned : Pinned := { name := "ytcefkngblddpoaagreatdoor", sum := "6a2df825032c70408d9749fbad1c14f6e9c2cdf38946fe2a5a7fdc9a525e5b69", checked := Tryz.checked }
namespace Rows
def none {H : Type} : Left H := { results := [], args := [] }

/- WHAT THE LISTED PACKAGE-LEVEL VARIABLES READ AS WHEN THE CALL BEGINS. Each datum BY PROGRAM (the guide's laid-datum.mjs) off the statement by which the dump's own 'gosem.cut.vars' lays the variable. In a bare row this is a premise. The card (YtcefkngblddpoaaGreatDoorCards.lean) ties it to the program's text. -/
def laid_math_bits_deBruijn32tab {H : Type} : DataW H := .agg [.lit (.int .u8 0), .lit (.int .u8 1), .lit (.int .u8 28), .lit (.int .u8 2), .lit (.int .u8 29), .lit (.int .u8 14), .lit (.int .u8 24), .lit (.int .u8 3), .lit (.int .u8 30), .lit (.int .u8 22), .lit (.int .u8 20), .lit (.int .u8 15), .lit (.int .u8 25), .lit (.int .u8 17), .lit (.int .u8 4), .lit (.int .u8 8), .lit (.int .u8 31), .lit (.int .u8 27), .lit (.int .u8 13), .lit (.int .u8 23), .lit (.int .u8 21), .lit (.int .u8 19), .lit (.int .u8 16), .lit (.int .u8 7), .lit (.int .u8 26), .lit (.int .u8 12), .lit (.int .u8 18), .lit (.int .u8 6), .lit (.int .u8 11), .lit (.int .u8 5), .lit (.int .u8 10), .lit (.int .u8 9)]
def laid_math_bits_deBruijn64tab {H : Type} : DataW H := .agg [.lit (.int .u8 0), .lit (.int .u8 1), .lit (.int .u8 56), .lit (.int .u8 2), .lit (.int .u8 57), .lit (.int .u8 49), .lit (.int .u8 28), .lit (.int .u8 3), .lit (.int .u8 61), .lit (.int .u8 58), .lit (.int .u8 42), .lit (.int .u8 50), .lit (.int .u8 38), .lit (.int .u8 29), .lit (.int .u8 17), .lit (.int .u8 4), .lit (.int .u8 62), .lit (.int .u8 47), .lit (.int .u8 59), .lit (.int .u8 36), .lit (.int .u8 45), .lit (.int .u8 43), .lit (.int .u8 51), .lit (.int .u8 22), .lit (.int .u8 53), .lit (.int .u8 39), .lit (.int .u8 33), .lit (.int .u8 30), .lit (.int .u8 24), .lit (.int .u8 18), .lit (.int .u8 12), .lit (.int .u8 5), .lit (.int .u8 63), .lit (.int .u8 55), .lit (.int .u8 48), .lit (.int .u8 27), .lit (.int .u8 60), .lit (.int .u8 41), .lit (.int .u8 37), .lit (.int .u8 16), .lit (.int .u8 46), .lit (.int .u8 35), .lit (.int .u8 44), .lit (.int .u8 21), .lit (.int .u8 52), .lit (.int .u8 32), .lit (.int .u8 23), .lit (.int .u8 11), .lit (.int .u8 54), .lit (.int .u8 26), .lit (.int .u8 40), .lit (.int .u8 15), .lit (.int .u8 34), .lit (.int .u8 20), .lit (.int .u8 31), .lit (.int .u8 10), .lit (.int .u8 25), .lit (.int .u8 14), .lit (.int .u8 19), .lit (.int .u8 9), .lit (.int .u8 13), .lit (.int .u8 8), .lit (.int .u8 7), .lit (.int .u8 6)]
def laid_internal_strconv_uint64pow10 {H : Type} : DataW H := .agg [.lit (.int .u64 1), .lit (.int .u64 10), .lit (.int .u64 100), .lit (.int .u64 1000), .lit (.int .u64 10000), .lit (.int .u64 100000), .lit (.int .u64 1000000), .lit (.int .u64 10000000), .lit (.int .u64 100000000), .lit (.int .u64 1000000000), .lit (.int .u64 10000000000), .lit (.int .u64 100000000000), .lit (.int .u64 1000000000000), .lit (.int .u64 10000000000000), .lit (.int .u64 100000000000000), .lit (.int .u64 1000000000000000), .lit (.int .u64 10000000000000000), .lit (.int .u64 100000000000000000), .lit (.int .u64 1000000000000000000), .lit (.int .u64 10000000000000000000)]
def laid_dasd_dasdref50_all {H : Type} : DataW H := .agg [.lit (.string []), .lit (.string []), .lit (.bool true)]

/-- 'dasdlaw50.UnitCommits': WHATEVER THE INPUT: true; the input reads as it did. -/
def unitCommitsSpec : ChangeSpec := { name := "unitCommits", fn := fun _ => fun
  | [d1, d2] => { results := [.lit (.bool true)], args := [d1, d2] }
  | _ => none }
def unitCommitsRow : OpenClaim := { program := "ytcefkngblddpoaagreatdoor", sum := "6a2df825032c70408d9749fbad1c14f6e9c2cdf38946fe2a5a7fdc9a525e5b69", func := "dasd/dasdlaw50.UnitCommits", spec := "unitCommits", unfollowed := true, recurses := true, named := ["internal/strconv.uint64pow10", "math/bits.deBruijn32tab", "math/bits.deBruijn64tab"], apart := false, laid := [("math/bits.deBruijn32tab", laid_math_bits_deBruijn32tab), ("math/bits.deBruijn64tab", laid_math_bits_deBruijn64tab), ("internal/strconv.uint64pow10", laid_internal_strconv_uint64pow10)] }
def UnitCommitsSaid : Prop := unitCommitsRow.holds Tryz.pinned (OpenSpec.ofChange unitCommitsSpec)

/-- ITS FALSE NEIGHBOUR: 'it returns false'. Refute it at one input. -/
def unitCommitsWrong : ChangeSpec := { name := "unitCommits", fn := fun _ => fun
  | [d1, d2] => { results := [.lit (.bool false)], args := [d1, d2] }
  | _ => none }
def UnitCommitsWrongFalsely : Prop := unitCommitsRow.holds Tryz.pinned (OpenSpec.ofChange unitCommitsWrong)

/-- 'dasdlaw50.UnitCalls': WHATEVER THE INPUT: true; the input reads as it did. -/
def unitCallsSpec : ChangeSpec := { name := "unitCalls", fn := fun _ => fun
  | [d1, d2, d3] => { results := [.lit (.bool true)], args := [d1, d2, d3] }
  | _ => none }
def unitCallsRow : OpenClaim := { program := "ytcefkngblddpoaagreatdoor", sum := "6a2df825032c70408d9749fbad1c14f6e9c2cdf38946fe2a5a7fdc9a525e5b69", func := "dasd/dasdlaw50.UnitCalls", spec := "unitCalls", unfollowed := true, recurses := true, named := ["internal/strconv.uint64pow10", "math/bits.deBruijn32tab", "math/bits.deBruijn64tab", "dasd/dasdref50.all"], apart := false, laid := [("dasd/dasdref50.all", laid_dasd_dasdref50_all), ("math/bits.deBruijn32tab", laid_math_bits_deBruijn32tab), ("math/bits.deBruijn64tab", laid_math_bits_deBruijn64tab), ("internal/strconv.uint64pow10", laid_internal_strconv_uint64pow10)] }
def UnitCallsSaid : Prop := unitCallsRow.holds Tryz.pinned (OpenSpec.ofChange unitCallsSpec)

/-- ITS FALSE NEIGHBOUR: 'it returns false'. Refute it at one input. -/
def unitCallsWrong : ChangeSpec := { name := "unitCalls", fn := fun _ => fun
  | [d1, d2, d3] => { results := [.lit (.bool false)], args := [d1, d2, d3] }
  | _ => none }
def UnitCallsWrongFalsely : Prop := unitCallsRow.holds Tryz.pinned (OpenSpec.ofChange unitCallsWrong)

/-- 'dasdlaw50.UnitHides': WHATEVER THE INPUT: true; the input reads as it did. -/
def unitHidesSpec : ChangeSpec := { name := "unitHides", fn := fun _ => fun
  | [d1, d2] => { results := [.lit (.bool true)], args := [d1, d2] }
  | _ => none }
def unitHidesRow : OpenClaim := { program := "ytcefkngblddpoaagreatdoor", sum := "6a2df825032c70408d9749fbad1c14f6e9c2cdf38946fe2a5a7fdc9a525e5b69", func := "dasd/dasdlaw50.UnitHides", spec := "unitHides", unfollowed := true, recurses := true, named := ["internal/strconv.uint64pow10", "math/bits.deBruijn32tab", "math/bits.deBruijn64tab"], apart := false, laid := [("math/bits.deBruijn32tab", laid_math_bits_deBruijn32tab), ("math/bits.deBruijn64tab", laid_math_bits_deBruijn64tab), ("internal/strconv.uint64pow10", laid_internal_strconv_uint64pow10)] }
def UnitHidesSaid : Prop := unitHidesRow.holds Tryz.pinned (OpenSpec.ofChange unitHidesSpec)

/-- ITS FALSE NEIGHBOUR: 'it returns false'. Refute it at one input. -/
def unitHidesWrong : ChangeSpec := { name := "unitHides", fn := fun _ => fun
  | [d1, d2] => { results := [.lit (.bool false)], args := [d1, d2] }
  | _ => none }
def UnitHidesWrongFalsely : Prop := unitHidesRow.holds Tryz.pinned (OpenSpec.ofChange unitHidesWrong)

/-- 'dasdlaw50.UnitIsolated': WHATEVER THE INPUT: true; the input reads as it did. -/
def unitIsolatedSpec : ChangeSpec := { name := "unitIsolated", fn := fun _ => fun
  | [d1, d2, d3] => { results := [.lit (.bool true)], args := [d1, d2, d3] }
  | _ => none }
def unitIsolatedRow : OpenClaim := { program := "ytcefkngblddpoaagreatdoor", sum := "6a2df825032c70408d9749fbad1c14f6e9c2cdf38946fe2a5a7fdc9a525e5b69", func := "dasd/dasdlaw50.UnitIsolated", spec := "unitIsolated", unfollowed := true, recurses := true, named := ["internal/strconv.uint64pow10", "math/bits.deBruijn32tab", "math/bits.deBruijn64tab"], apart := false, laid := [("math/bits.deBruijn32tab", laid_math_bits_deBruijn32tab), ("math/bits.deBruijn64tab", laid_math_bits_deBruijn64tab), ("internal/strconv.uint64pow10", laid_internal_strconv_uint64pow10)] }
def UnitIsolatedSaid : Prop := unitIsolatedRow.holds Tryz.pinned (OpenSpec.ofChange unitIsolatedSpec)

/-- ITS FALSE NEIGHBOUR: 'it returns false'. Refute it at one input. -/
def unitIsolatedWrong : ChangeSpec := { name := "unitIsolated", fn := fun _ => fun
  | [d1, d2, d3] => { results := [.lit (.bool false)], args := [d1, d2, d3] }
  | _ => none }
def UnitIsolatedWrongFalsely : Prop := unitIsolatedRow.holds Tryz.pinned (OpenSpec.ofChange unitIsolatedWrong)

/-- 'dasdlaw50.UnitLarge': WHATEVER THE INPUT: true; the input reads as it did. -/
def unitLargeSpec : ChangeSpec := { name := "unitLarge", fn := fun _ => fun
  | [d1, d2] => { results := [.lit (.bool true)], args := [d1, d2] }
  | _ => none }
def unitLargeRow : OpenClaim := { program := "ytcefkngblddpoaagreatdoor", sum := "6a2df825032c70408d9749fbad1c14f6e9c2cdf38946fe2a5a7fdc9a525e5b69", func := "dasd/dasdlaw50.UnitLarge", spec := "unitLarge", inPlace := ["internal/abi.NoEscape", "internal/bytealg.MakeNoZero"], unfollowed := true, recurses := true, named := ["internal/strconv.uint64pow10", "math/bits.deBruijn32tab", "math/bits.deBruijn64tab"], apart := false, laid := [("math/bits.deBruijn32tab", laid_math_bits_deBruijn32tab), ("math/bits.deBruijn64tab", laid_math_bits_deBruijn64tab), ("internal/strconv.uint64pow10", laid_internal_strconv_uint64pow10)] }
def UnitLargeSaid : Prop := unitLargeRow.holds Tryz.pinned (OpenSpec.ofChange unitLargeSpec)

/-- ITS FALSE NEIGHBOUR: 'it returns false'. Refute it at one input. -/
def unitLargeWrong : ChangeSpec := { name := "unitLarge", fn := fun _ => fun
  | [d1, d2] => { results := [.lit (.bool false)], args := [d1, d2] }
  | _ => none }
def UnitLargeWrongFalsely : Prop := unitLargeRow.holds Tryz.pinned (OpenSpec.ofChange unitLargeWrong)

/-- 'dasdlaw50.UnitAlternates': WHATEVER THE INPUT: true; the input reads as it did. -/
def unitAlternatesSpec : ChangeSpec := { name := "unitAlternates", fn := fun _ => fun
  | [d1, d2] => { results := [.lit (.bool true)], args := [d1, d2] }
  | _ => none }
def unitAlternatesRow : OpenClaim := { program := "ytcefkngblddpoaagreatdoor", sum := "6a2df825032c70408d9749fbad1c14f6e9c2cdf38946fe2a5a7fdc9a525e5b69", func := "dasd/dasdlaw50.UnitAlternates", spec := "unitAlternates", unfollowed := true, recurses := true, named := ["internal/strconv.uint64pow10", "math/bits.deBruijn32tab", "math/bits.deBruijn64tab"], apart := false, laid := [("math/bits.deBruijn32tab", laid_math_bits_deBruijn32tab), ("math/bits.deBruijn64tab", laid_math_bits_deBruijn64tab), ("internal/strconv.uint64pow10", laid_internal_strconv_uint64pow10)] }
def UnitAlternatesSaid : Prop := unitAlternatesRow.holds Tryz.pinned (OpenSpec.ofChange unitAlternatesSpec)

/-- ITS FALSE NEIGHBOUR: 'it returns false'. Refute it at one input. -/
def unitAlternatesWrong : ChangeSpec := { name := "unitAlternates", fn := fun _ => fun
  | [d1, d2] => { results := [.lit (.bool false)], args := [d1, d2] }
  | _ => none }
def UnitAlternatesWrongFalsely : Prop := unitAlternatesRow.holds Tryz.pinned (OpenSpec.ofChange unitAlternatesWrong)

/- THE SECOND FORM. 'bulk': how many values and letters a reading holds, each counted each time it is reached (what is shared counts as often as it is met; a slice's spare places count too). A statement '..UptoSaid' is the law's where the arguments, and the package variables that the reading takes, are together of bulk at most 1048576: NARROWER than '..Said'. Prove '..Said' where nothing that the law and all that it calls make is longer than what came in: it says more and counts as full. Else prove '..UptoSaid'. A law counts once. -/
mutual
def uptoBulk {H : Type} : DataW H → Nat
  | .lit (.string bytes) => bytes.length + 1
  | .lit _ => 1
  | .nil => 1
  | .ptr d => uptoBulk d + 1
  | .slice elems spare => uptoBulkAll elems + uptoBulkAll spare + 1
  | .agg parts => uptoBulkAll parts + 1
  | .iface _ d => uptoBulk d + 1
  | .map entries => uptoBulkEntries entries + 1
  | .held _ => 1
def uptoBulkAll {H : Type} : List (DataW H) → Nat
  | [] => 0
  | d :: r => uptoBulk d + uptoBulkAll r
def uptoBulkEntries {H : Type} : List (Lit × DataW H) → Nat
  | [] => 0
  | x :: r => uptoBulkEntry x + uptoBulkEntries r
def uptoBulkEntry {H : Type} : Lit × DataW H → Nat
  | (.string bytes, d) => bytes.length + uptoBulk d + 1
  | (_, d) => uptoBulk d + 1
 end
def uptoSmall : (H : Type) → List (DataW H) → Bool := fun _ ds => decide (uptoBulkAll ds ≤ 1048576)
def OpenSpec.upto (s : _root_.Go.ChangeSpec) : _root_.Go.OpenSpec := { _root_.Go.OpenSpec.ofChange s with cond := some uptoSmall }

/-- 'dasdlaw50.UnitCommits', WHERE WHAT IT READS IS OF BULK AT MOST 1048576: true; the input reads as it did. -/
def unitCommitsUptoRow : OpenClaim := { program := "ytcefkngblddpoaagreatdoor", sum := "6a2df825032c70408d9749fbad1c14f6e9c2cdf38946fe2a5a7fdc9a525e5b69", func := "dasd/dasdlaw50.UnitCommits", spec := "unitCommits", unfollowed := true, recurses := true, named := ["internal/strconv.uint64pow10", "math/bits.deBruijn32tab", "math/bits.deBruijn64tab"], apart := false, laid := [("math/bits.deBruijn32tab", laid_math_bits_deBruijn32tab), ("math/bits.deBruijn64tab", laid_math_bits_deBruijn64tab), ("internal/strconv.uint64pow10", laid_internal_strconv_uint64pow10)], narrowed := true }
def UnitCommitsUptoSaid : Prop := unitCommitsUptoRow.holds Tryz.pinned (OpenSpec.upto unitCommitsSpec)

/-- 'dasdlaw50.UnitCalls', WHERE WHAT IT READS IS OF BULK AT MOST 1048576: true; the input reads as it did. -/
def unitCallsUptoRow : OpenClaim := { program := "ytcefkngblddpoaagreatdoor", sum := "6a2df825032c70408d9749fbad1c14f6e9c2cdf38946fe2a5a7fdc9a525e5b69", func := "dasd/dasdlaw50.UnitCalls", spec := "unitCalls", unfollowed := true, recurses := true, named := ["internal/strconv.uint64pow10", "math/bits.deBruijn32tab", "math/bits.deBruijn64tab", "dasd/dasdref50.all"], apart := false, laid := [("dasd/dasdref50.all", laid_dasd_dasdref50_all), ("math/bits.deBruijn32tab", laid_math_bits_deBruijn32tab), ("math/bits.deBruijn64tab", laid_math_bits_deBruijn64tab), ("internal/strconv.uint64pow10", laid_internal_strconv_uint64pow10)], narrowed := true }
def UnitCallsUptoSaid : Prop := unitCallsUptoRow.holds Tryz.pinned (OpenSpec.upto unitCallsSpec)

/-- 'dasdlaw50.UnitHides', WHERE WHAT IT READS IS OF BULK AT MOST 1048576: true; the input reads as it did. -/
def unitHidesUptoRow : OpenClaim := { program := "ytcefkngblddpoaagreatdoor", sum := "6a2df825032c70408d9749fbad1c14f6e9c2cdf38946fe2a5a7fdc9a525e5b69", func := "dasd/dasdlaw50.UnitHides", spec := "unitHides", unfollowed := true, recurses := true, named := ["internal/strconv.uint64pow10", "math/bits.deBruijn32tab", "math/bits.deBruijn64tab"], apart := false, laid := [("math/bits.deBruijn32tab", laid_math_bits_deBruijn32tab), ("math/bits.deBruijn64tab", laid_math_bits_deBruijn64tab), ("internal/strconv.uint64pow10", laid_internal_strconv_uint64pow10)], narrowed := true }
def UnitHidesUptoSaid : Prop := unitHidesUptoRow.holds Tryz.pinned (OpenSpec.upto unitHidesSpec)

/-- 'dasdlaw50.UnitIsolated', WHERE WHAT IT READS IS OF BULK AT MOST 1048576: true; the input reads as it did. -/
def unitIsolatedUptoRow : OpenClaim := { program := "ytcefkngblddpoaagreatdoor", sum := "6a2df825032c70408d9749fbad1c14f6e9c2cdf38946fe2a5a7fdc9a525e5b69", func := "dasd/dasdlaw50.UnitIsolated", spec := "unitIsolated", unfollowed := true, recurses := true, named := ["internal/strconv.uint64pow10", "math/bits.deBruijn32tab", "math/bits.deBruijn64tab"], apart := false, laid := [("math/bits.deBruijn32tab", laid_math_bits_deBruijn32tab), ("math/bits.deBruijn64tab", laid_math_bits_deBruijn64tab), ("internal/strconv.uint64pow10", laid_internal_strconv_uint64pow10)], narrowed := true }
def UnitIsolatedUptoSaid : Prop := unitIsolatedUptoRow.holds Tryz.pinned (OpenSpec.upto unitIsolatedSpec)

/-- 'dasdlaw50.UnitLarge', WHERE WHAT IT READS IS OF BULK AT MOST 1048576: true; the input reads as it did. -/
def unitLargeUptoRow : OpenClaim := { program := "ytcefkngblddpoaagreatdoor", sum := "6a2df825032c70408d9749fbad1c14f6e9c2cdf38946fe2a5a7fdc9a525e5b69", func := "dasd/dasdlaw50.UnitLarge", spec := "unitLarge", inPlace := ["internal/abi.NoEscape", "internal/bytealg.MakeNoZero"], unfollowed := true, recurses := true, named := ["internal/strconv.uint64pow10", "math/bits.deBruijn32tab", "math/bits.deBruijn64tab"], apart := false, laid := [("math/bits.deBruijn32tab", laid_math_bits_deBruijn32tab), ("math/bits.deBruijn64tab", laid_math_bits_deBruijn64tab), ("internal/strconv.uint64pow10", laid_internal_strconv_uint64pow10)], narrowed := true }
def UnitLargeUptoSaid : Prop := unitLargeUptoRow.holds Tryz.pinned (OpenSpec.upto unitLargeSpec)

/-- 'dasdlaw50.UnitAlternates', WHERE WHAT IT READS IS OF BULK AT MOST 1048576: true; the input reads as it did. -/
def unitAlternatesUptoRow : OpenClaim := { program := "ytcefkngblddpoaagreatdoor", sum := "6a2df825032c70408d9749fbad1c14f6e9c2cdf38946fe2a5a7fdc9a525e5b69", func := "dasd/dasdlaw50.UnitAlternates", spec := "unitAlternates", unfollowed := true, recurses := true, named := ["internal/strconv.uint64pow10", "math/bits.deBruijn32tab", "math/bits.deBruijn64tab"], apart := false, laid := [("math/bits.deBruijn32tab", laid_math_bits_deBruijn32tab), ("math/bits.deBruijn64tab", laid_math_bits_deBruijn64tab), ("internal/strconv.uint64pow10", laid_internal_strconv_uint64pow10)], narrowed := true }
def UnitAlternatesUptoSaid : Prop := unitAlternatesUptoRow.holds Tryz.pinned (OpenSpec.upto unitAlternatesSpec)

end Rows
end Go.Proofs.YtcefkngblddpoaaGreatDoor

/-
  No cell of these rows narrows 'for every input' (looked for: loops, veiled, ifaces, maps, wideKeys, modest, calm, conditions, laid).
  DERIVED. THE GIVEN ROWS OF THIS SEAT. 8 by the template 'for every input the law returns true; each argument reads behind the call as it read before'; 0 by the template 'total and deterministic' (their statements: YtlpejbmckidacaaTotals.lean).
  GIVEN WITH THE SEED: the statements are not yours to turn. If you find one false, say at which input.
  Laid BY PROGRAM, IN A SANDBOX (cutbox-rows.mjs): the forced cells as the released guide's own fill.sh prints them over the translation 0145fb38e1014751… (all of the seat's roots in one cut). By AI agents, Wed Nov 11 2026. No macro, syntax, notation, axiom, sorry.
-/
import Derived.Test.YtlpejbmckidacaaChecked
import GoSem.Claim
import GoSem.ClaimJoined
import GoSem.ClaimMapViews
import Derived.JoinedTies
import Derived.KernelRfl
namespace Go.Proofs.Ytlpejbmckidacaa
/- THE CELL 'sum', in the pinned program and in every row, IS THE sha256 OF THE DUMP (.gsa) THAT YtlpejbmckidacaaProg.lean LOADS. Nothing in Lean hashes anything: it is a label: what it is worth is what the hold of that sum in a sandbox is worth. -/
noncomputable def Try.pinned : Pinned := { name := "ytlpejbmckidacaa", sum := "0145fb38e1014751c82ff48a6e2a172bb0a860f964feea9c7de4887c98c2b1f4", checked := Try.checked }
namespace Rows
def none {H : Type} : Left H := { results := [], args := [] }

/-- 'dasdlaw02.ChecksumSums': WHATEVER THE INPUT: true; the input reads as it did. -/
def checksumSumsSpec : ChangeSpec := { name := "checksumSums", fn := fun _ => fun
  | [d1, d2] => { results := [.lit (.bool true)], args := [d1, d2] }
  | _ => none }
def checksumSumsRow : OpenClaim := { program := "ytlpejbmckidacaa", sum := "0145fb38e1014751c82ff48a6e2a172bb0a860f964feea9c7de4887c98c2b1f4", func := "dasd/dasdlaw02.ChecksumSums", spec := "checksumSums", unfollowed := true, recurses := true, apart := false }
def ChecksumSumsSaid : Prop := checksumSumsRow.holds Try.pinned (OpenSpec.ofChange checksumSumsSpec)

/-- ITS FALSE NEIGHBOUR: 'it returns false'. Refute it at one input. -/
def checksumSumsWrong : ChangeSpec := { name := "checksumSums", fn := fun _ => fun
  | [d1, d2] => { results := [.lit (.bool false)], args := [d1, d2] }
  | _ => none }
def ChecksumSumsWrongFalsely : Prop := checksumSumsRow.holds Try.pinned (OpenSpec.ofChange checksumSumsWrong)

/-- 'dasdlaw02.ChecksumLinear': WHATEVER THE INPUT: true; the input reads as it did. -/
def checksumLinearSpec : ChangeSpec := { name := "checksumLinear", fn := fun _ => fun
  | [d1, d2, d3] => { results := [.lit (.bool true)], args := [d1, d2, d3] }
  | _ => none }
def checksumLinearRow : OpenClaim := { program := "ytlpejbmckidacaa", sum := "0145fb38e1014751c82ff48a6e2a172bb0a860f964feea9c7de4887c98c2b1f4", func := "dasd/dasdlaw02.ChecksumLinear", spec := "checksumLinear", unfollowed := true, recurses := true, apart := false }
def ChecksumLinearSaid : Prop := checksumLinearRow.holds Try.pinned (OpenSpec.ofChange checksumLinearSpec)

/-- ITS FALSE NEIGHBOUR: 'it returns false'. Refute it at one input. -/
def checksumLinearWrong : ChangeSpec := { name := "checksumLinear", fn := fun _ => fun
  | [d1, d2, d3] => { results := [.lit (.bool false)], args := [d1, d2, d3] }
  | _ => none }
def ChecksumLinearWrongFalsely : Prop := checksumLinearRow.holds Try.pinned (OpenSpec.ofChange checksumLinearWrong)

/-- 'dasdlaw02.ChecksumNumbers': WHATEVER THE INPUT: true; the input reads as it did. -/
def checksumNumbersSpec : ChangeSpec := { name := "checksumNumbers", fn := fun _ => fun
  | [d1, d2] => { results := [.lit (.bool true)], args := [d1, d2] }
  | _ => none }
def checksumNumbersRow : OpenClaim := { program := "ytlpejbmckidacaa", sum := "0145fb38e1014751c82ff48a6e2a172bb0a860f964feea9c7de4887c98c2b1f4", func := "dasd/dasdlaw02.ChecksumNumbers", spec := "checksumNumbers", unfollowed := true, recurses := true, apart := false }
def ChecksumNumbersSaid : Prop := checksumNumbersRow.holds Try.pinned (OpenSpec.ofChange checksumNumbersSpec)

/-- ITS FALSE NEIGHBOUR: 'it returns false'. Refute it at one input. -/
def checksumNumbersWrong : ChangeSpec := { name := "checksumNumbers", fn := fun _ => fun
  | [d1, d2] => { results := [.lit (.bool false)], args := [d1, d2] }
  | _ => none }
def ChecksumNumbersWrongFalsely : Prop := checksumNumbersRow.holds Try.pinned (OpenSpec.ofChange checksumNumbersWrong)

/-- 'dasdlaw02.ChecksumSeals': WHATEVER THE INPUT: true; the input reads as it did. -/
def checksumSealsSpec : ChangeSpec := { name := "checksumSeals", fn := fun _ => fun
  | [d] => { results := [.lit (.bool true)], args := [d] }
  | _ => none }
def checksumSealsRow : OpenClaim := { program := "ytlpejbmckidacaa", sum := "0145fb38e1014751c82ff48a6e2a172bb0a860f964feea9c7de4887c98c2b1f4", func := "dasd/dasdlaw02.ChecksumSeals", spec := "checksumSeals", unfollowed := true, recurses := true, apart := false }
def ChecksumSealsSaid : Prop := checksumSealsRow.holds Try.pinned (OpenSpec.ofChange checksumSealsSpec)

/-- ITS FALSE NEIGHBOUR: 'it returns false'. Refute it at one input. -/
def checksumSealsWrong : ChangeSpec := { name := "checksumSeals", fn := fun _ => fun
  | [d] => { results := [.lit (.bool false)], args := [d] }
  | _ => none }
def ChecksumSealsWrongFalsely : Prop := checksumSealsRow.holds Try.pinned (OpenSpec.ofChange checksumSealsWrong)

/-- 'dasdlaw02.ChecksumOpens': WHATEVER THE INPUT: true; the input reads as it did. -/
def checksumOpensSpec : ChangeSpec := { name := "checksumOpens", fn := fun _ => fun
  | [d] => { results := [.lit (.bool true)], args := [d] }
  | _ => none }
def checksumOpensRow : OpenClaim := { program := "ytlpejbmckidacaa", sum := "0145fb38e1014751c82ff48a6e2a172bb0a860f964feea9c7de4887c98c2b1f4", func := "dasd/dasdlaw02.ChecksumOpens", spec := "checksumOpens", unfollowed := true, recurses := true, apart := false }
def ChecksumOpensSaid : Prop := checksumOpensRow.holds Try.pinned (OpenSpec.ofChange checksumOpensSpec)

/-- ITS FALSE NEIGHBOUR: 'it returns false'. Refute it at one input. -/
def checksumOpensWrong : ChangeSpec := { name := "checksumOpens", fn := fun _ => fun
  | [d] => { results := [.lit (.bool false)], args := [d] }
  | _ => none }
def ChecksumOpensWrongFalsely : Prop := checksumOpensRow.holds Try.pinned (OpenSpec.ofChange checksumOpensWrong)

/-- 'dasdlaw02.ChecksumBursts': WHATEVER THE INPUT: true; the input reads as it did. -/
def checksumBurstsSpec : ChangeSpec := { name := "checksumBursts", fn := fun _ => fun
  | [d1, d2, d3] => { results := [.lit (.bool true)], args := [d1, d2, d3] }
  | _ => none }
def checksumBurstsRow : OpenClaim := { program := "ytlpejbmckidacaa", sum := "0145fb38e1014751c82ff48a6e2a172bb0a860f964feea9c7de4887c98c2b1f4", func := "dasd/dasdlaw02.ChecksumBursts", spec := "checksumBursts", unfollowed := true, recurses := true, apart := false }
def ChecksumBurstsSaid : Prop := checksumBurstsRow.holds Try.pinned (OpenSpec.ofChange checksumBurstsSpec)

/-- ITS FALSE NEIGHBOUR: 'it returns false'. Refute it at one input. -/
def checksumBurstsWrong : ChangeSpec := { name := "checksumBursts", fn := fun _ => fun
  | [d1, d2, d3] => { results := [.lit (.bool false)], args := [d1, d2, d3] }
  | _ => none }
def ChecksumBurstsWrongFalsely : Prop := checksumBurstsRow.holds Try.pinned (OpenSpec.ofChange checksumBurstsWrong)

/-- 'dasdlaw02.ChecksumParts': WHATEVER THE INPUT: true; the input reads as it did. -/
def checksumPartsSpec : ChangeSpec := { name := "checksumParts", fn := fun _ => fun
  | [d1, d2] => { results := [.lit (.bool true)], args := [d1, d2] }
  | _ => none }
def checksumPartsRow : OpenClaim := { program := "ytlpejbmckidacaa", sum := "0145fb38e1014751c82ff48a6e2a172bb0a860f964feea9c7de4887c98c2b1f4", func := "dasd/dasdlaw02.ChecksumParts", spec := "checksumParts", unfollowed := true, recurses := true, apart := false }
def ChecksumPartsSaid : Prop := checksumPartsRow.holds Try.pinned (OpenSpec.ofChange checksumPartsSpec)

/-- ITS FALSE NEIGHBOUR: 'it returns false'. Refute it at one input. -/
def checksumPartsWrong : ChangeSpec := { name := "checksumParts", fn := fun _ => fun
  | [d1, d2] => { results := [.lit (.bool false)], args := [d1, d2] }
  | _ => none }
def ChecksumPartsWrongFalsely : Prop := checksumPartsRow.holds Try.pinned (OpenSpec.ofChange checksumPartsWrong)

/-- 'dasdlaw02.ChecksumCombines': WHATEVER THE INPUT: true; the input reads as it did. -/
def checksumCombinesSpec : ChangeSpec := { name := "checksumCombines", fn := fun _ => fun
  | [d1, d2, d3] => { results := [.lit (.bool true)], args := [d1, d2, d3] }
  | _ => none }
def checksumCombinesRow : OpenClaim := { program := "ytlpejbmckidacaa", sum := "0145fb38e1014751c82ff48a6e2a172bb0a860f964feea9c7de4887c98c2b1f4", func := "dasd/dasdlaw02.ChecksumCombines", spec := "checksumCombines", unfollowed := true, recurses := true, apart := false }
def ChecksumCombinesSaid : Prop := checksumCombinesRow.holds Try.pinned (OpenSpec.ofChange checksumCombinesSpec)

/-- ITS FALSE NEIGHBOUR: 'it returns false'. Refute it at one input. -/
def checksumCombinesWrong : ChangeSpec := { name := "checksumCombines", fn := fun _ => fun
  | [d1, d2, d3] => { results := [.lit (.bool false)], args := [d1, d2, d3] }
  | _ => none }
def ChecksumCombinesWrongFalsely : Prop := checksumCombinesRow.holds Try.pinned (OpenSpec.ofChange checksumCombinesWrong)

/- THE SECOND FORM. 'bulk': how many values and letters a reading holds, each counted each time it is reached (what is shared counts as often as it is met; a slice's spare places count too). A statement '..UptoSaid' is the law's where the arguments, and the package variables that the reading takes, are together of bulk at most 1048576: NARROWER than '..Said'. Prove '..Said' where nothing that the law and all that it calls make is longer than what came in: it says more and counts as full. Else prove '..UptoSaid'. A law counts once. -/
mutual
def uptoBulk {H : Type} : DataW H → Nat
  | .lit (.string bytes) => bytes.length + 1
  | .lit _ => 1
  | .nil => 1
  | .ptr d => uptoBulk d + 1
  | .slice elems spare => uptoBulkAll elems + uptoBulkAll spare + 1
  | .agg parts => uptoBulkAll parts + 1
  | .iface _ d => uptoBulk d + 1
  | .map entries => uptoBulkEntries entries + 1
  | .held _ => 1
def uptoBulkAll {H : Type} : List (DataW H) → Nat
  | [] => 0
  | d :: r => uptoBulk d + uptoBulkAll r
def uptoBulkEntries {H : Type} : List (Lit × DataW H) → Nat
  | [] => 0
  | x :: r => uptoBulkEntry x + uptoBulkEntries r
def uptoBulkEntry {H : Type} : Lit × DataW H → Nat
  | (.string bytes, d) => bytes.length + uptoBulk d + 1
  | (_, d) => uptoBulk d + 1
 end
def uptoSmall : (H : Type) → List (DataW H) → Bool := fun _ ds => decide (uptoBulkAll ds ≤ 1048576)
def OpenSpec.upto (s : _root_.Go.ChangeSpec) : _root_.Go.OpenSpec := { _root_.Go.OpenSpec.ofChange s with cond := some uptoSmall }

/-- 'dasdlaw02.ChecksumSums', WHERE WHAT IT READS IS OF BULK AT MOST 1048576: true; the input reads as it did. -/
def checksumSumsUptoRow : OpenClaim := { program := "ytlpejbmckidacaa", sum := "0145fb38e1014751c82ff48a6e2a172bb0a860f964feea9c7de4887c98c2b1f4", func := "dasd/dasdlaw02.ChecksumSums", spec := "checksumSums", unfollowed := true, recurses := true, apart := false, narrowed := true }
def ChecksumSumsUptoSaid : Prop := checksumSumsUptoRow.holds Try.pinned (OpenSpec.upto checksumSumsSpec)

/-- 'dasdlaw02.ChecksumLinear', WHERE WHAT IT READS IS OF BULK AT MOST 1048576: true; the input reads as it did. -/
def checksumLinearUptoRow : OpenClaim := { program := "ytlpejbmckidacaa", sum := "0145fb38e1014751c82ff48a6e2a172bb0a860f964feea9c7de4887c98c2b1f4", func := "dasd/dasdlaw02.ChecksumLinear", spec := "checksumLinear", unfollowed := true, recurses := true, apart := false, narrowed := true }
def ChecksumLinearUptoSaid : Prop := checksumLinearUptoRow.holds Try.pinned (OpenSpec.upto checksumLinearSpec)

/-- 'dasdlaw02.ChecksumNumbers', WHERE WHAT IT READS IS OF BULK AT MOST 1048576: true; the input reads as it did. -/
def checksumNumbersUptoRow : OpenClaim := { program := "ytlpejbmckidacaa", sum := "0145fb38e1014751c82ff48a6e2a172bb0a860f964feea9c7de4887c98c2b1f4", func := "dasd/dasdlaw02.ChecksumNumbers", spec := "checksumNumbers", unfollowed := true, recurses := true, apart := false, narrowed := true }
def ChecksumNumbersUptoSaid : Prop := checksumNumbersUptoRow.holds Try.pinned (OpenSpec.upto checksumNumbersSpec)

/-- 'dasdlaw02.ChecksumSeals', WHERE WHAT IT READS IS OF BULK AT MOST 1048576: true; the input reads as it did. -/
def checksumSealsUptoRow : OpenClaim := { program := "ytlpejbmckidacaa", sum := "0145fb38e1014751c82ff48a6e2a172bb0a860f964feea9c7de4887c98c2b1f4", func := "dasd/dasdlaw02.ChecksumSeals", spec := "checksumSeals", unfollowed := true, recurses := true, apart := false, narrowed := true }
def ChecksumSealsUptoSaid : Prop := checksumSealsUptoRow.holds Try.pinned (OpenSpec.upto checksumSealsSpec)

/-- 'dasdlaw02.ChecksumOpens', WHERE WHAT IT READS IS OF BULK AT MOST 1048576: true; the input reads as it did. -/
def checksumOpensUptoRow : OpenClaim := { program := "ytlpejbmckidacaa", sum := "0145fb38e1014751c82ff48a6e2a172bb0a860f964feea9c7de4887c98c2b1f4", func := "dasd/dasdlaw02.ChecksumOpens", spec := "checksumOpens", unfollowed := true, recurses := true, apart := false, narrowed := true }
def ChecksumOpensUptoSaid : Prop := checksumOpensUptoRow.holds Try.pinned (OpenSpec.upto checksumOpensSpec)

/-- 'dasdlaw02.ChecksumBursts', WHERE WHAT IT READS IS OF BULK AT MOST 1048576: true; the input reads as it did. -/
def checksumBurstsUptoRow : OpenClaim := { program := "ytlpejbmckidacaa", sum := "0145fb38e1014751c82ff48a6e2a172bb0a860f964feea9c7de4887c98c2b1f4", func := "dasd/dasdlaw02.ChecksumBursts", spec := "checksumBursts", unfollowed := true, recurses := true, apart := false, narrowed := true }
def ChecksumBurstsUptoSaid : Prop := checksumBurstsUptoRow.holds Try.pinned (OpenSpec.upto checksumBurstsSpec)

/-- 'dasdlaw02.ChecksumParts', WHERE WHAT IT READS IS OF BULK AT MOST 1048576: true; the input reads as it did. -/
def checksumPartsUptoRow : OpenClaim := { program := "ytlpejbmckidacaa", sum := "0145fb38e1014751c82ff48a6e2a172bb0a860f964feea9c7de4887c98c2b1f4", func := "dasd/dasdlaw02.ChecksumParts", spec := "checksumParts", unfollowed := true, recurses := true, apart := false, narrowed := true }
def ChecksumPartsUptoSaid : Prop := checksumPartsUptoRow.holds Try.pinned (OpenSpec.upto checksumPartsSpec)

/-- 'dasdlaw02.ChecksumCombines', WHERE WHAT IT READS IS OF BULK AT MOST 1048576: true; the input reads as it did. -/
def checksumCombinesUptoRow : OpenClaim := { program := "ytlpejbmckidacaa", sum := "0145fb38e1014751c82ff48a6e2a172bb0a860f964feea9c7de4887c98c2b1f4", func := "dasd/dasdlaw02.ChecksumCombines", spec := "checksumCombines", unfollowed := true, recurses := true, apart := false, narrowed := true }
def ChecksumCombinesUptoSaid : Prop := checksumCombinesUptoRow.holds Try.pinned (OpenSpec.upto checksumCombinesSpec)

end Rows
end Go.Proofs.Ytlpejbmckidacaa

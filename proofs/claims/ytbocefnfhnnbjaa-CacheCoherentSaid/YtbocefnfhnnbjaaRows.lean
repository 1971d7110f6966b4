/-
  No cell of these rows narrows 'for every input' (looked for: loops, veiled, ifaces, maps, wideKeys, modest, calm, conditions, laid).
  DERIVED. THE GIVEN ROWS OF THIS SEAT. 5 by the template 'for every input the law returns true; each argument reads behind the call as it read before'; 0 by the template 'total and deterministic' (their statements: YtbocefnfhnnbjaaTotals.lean).
  GIVEN WITH THE SEED: the statements are not yours to turn. If you find one false, say at which input.
  Laid BY PROGRAM, IN A SANDBOX (cutbox-rows.mjs): the forced cells as the released guide's own fill.sh prints them over the translation 38c2fb0de65ee15e… (all of the seat's roots in one cut). By AI agents, Wed Nov 11 2026. No macro, syntax, notation, axiom, sorry.
-/
import Derived.Test.YtbocefnfhnnbjaaChecked
import GoSem.Claim
import GoSem.ClaimJoined
import GoSem.ClaimMapViews
import Derived.JoinedTies
import Derived.KernelRfl
namespace Go.Proofs.Ytbocefnfhnnbjaa
/- THE CELL 'sum', in the pinned program and in every row, IS THE sha256 OF THE DUMP (.gsa) THAT YtbocefnfhnnbjaaProg.lean LOADS. Nothing in Lean hashes anything: it is a label: what it is worth is what the hold of that sum in a sandbox is worth. -/
noncomputable def Try.pinned : Pinned := { name := "ytbocefnfhnnbjaa", sum := "38c2fb0de65ee15e59cf287fe4fd71ab8435bf3e0ac1c53cf4d77ff9b9e66e3b", checked := Try.checked }
namespace Rows
def none {H : Type} : Left H := { results := [], args := [] }

/-- 'dasdlaw53.CacheCalls': WHATEVER THE INPUT: true; the input reads as it did. -/
def cacheCallsSpec : ChangeSpec := { name := "cacheCalls", fn := fun _ => fun
  | [d] => { results := [.lit (.bool true)], args := [d] }
  | _ => none }
def cacheCallsRow : OpenClaim := { program := "ytbocefnfhnnbjaa", sum := "38c2fb0de65ee15e59cf287fe4fd71ab8435bf3e0ac1c53cf4d77ff9b9e66e3b", func := "dasd/dasdlaw53.CacheCalls", spec := "cacheCalls", unfollowed := true, recurses := true, plainKeys := false, apart := false }
def CacheCallsSaid : Prop := cacheCallsRow.holds Try.pinned (OpenSpec.ofChange cacheCallsSpec)

/-- ITS FALSE NEIGHBOUR: 'it returns false'. Refute it at one input. -/
def cacheCallsWrong : ChangeSpec := { name := "cacheCalls", fn := fun _ => fun
  | [d] => { results := [.lit (.bool false)], args := [d] }
  | _ => none }
def CacheCallsWrongFalsely : Prop := cacheCallsRow.holds Try.pinned (OpenSpec.ofChange cacheCallsWrong)

/-- 'dasdlaw53.CacheVersions': WHATEVER THE INPUT: true; the input reads as it did. -/
def cacheVersionsSpec : ChangeSpec := { name := "cacheVersions", fn := fun _ => fun
  | [d1, d2, d3, d4] => { results := [.lit (.bool true)], args := [d1, d2, d3, d4] }
  | _ => none }
def cacheVersionsRow : OpenClaim := { program := "ytbocefnfhnnbjaa", sum := "38c2fb0de65ee15e59cf287fe4fd71ab8435bf3e0ac1c53cf4d77ff9b9e66e3b", func := "dasd/dasdlaw53.CacheVersions", spec := "cacheVersions", unfollowed := true, recurses := true, plainKeys := false, apart := false }
def CacheVersionsSaid : Prop := cacheVersionsRow.holds Try.pinned (OpenSpec.ofChange cacheVersionsSpec)

/-- ITS FALSE NEIGHBOUR: 'it returns false'. Refute it at one input. -/
def cacheVersionsWrong : ChangeSpec := { name := "cacheVersions", fn := fun _ => fun
  | [d1, d2, d3, d4] => { results := [.lit (.bool false)], args := [d1, d2, d3, d4] }
  | _ => none }
def CacheVersionsWrongFalsely : Prop := cacheVersionsRow.holds Try.pinned (OpenSpec.ofChange cacheVersionsWrong)

/-- 'dasdlaw53.CacheForgets': WHATEVER THE INPUT: true; the input reads as it did. -/
def cacheForgetsSpec : ChangeSpec := { name := "cacheForgets", fn := fun _ => fun
  | [d1, d2] => { results := [.lit (.bool true)], args := [d1, d2] }
  | _ => none }
def cacheForgetsRow : OpenClaim := { program := "ytbocefnfhnnbjaa", sum := "38c2fb0de65ee15e59cf287fe4fd71ab8435bf3e0ac1c53cf4d77ff9b9e66e3b", func := "dasd/dasdlaw53.CacheForgets", spec := "cacheForgets", unfollowed := true, recurses := true, plainKeys := false, apart := false }
def CacheForgetsSaid : Prop := cacheForgetsRow.holds Try.pinned (OpenSpec.ofChange cacheForgetsSpec)

/-- ITS FALSE NEIGHBOUR: 'it returns false'. Refute it at one input. -/
def cacheForgetsWrong : ChangeSpec := { name := "cacheForgets", fn := fun _ => fun
  | [d1, d2] => { results := [.lit (.bool false)], args := [d1, d2] }
  | _ => none }
def CacheForgetsWrongFalsely : Prop := cacheForgetsRow.holds Try.pinned (OpenSpec.ofChange cacheForgetsWrong)

/-- 'dasdlaw53.CacheOnce': WHATEVER THE INPUT: true; the input reads as it did. -/
def cacheOnceSpec : ChangeSpec := { name := "cacheOnce", fn := fun _ => fun
  | [d] => { results := [.lit (.bool true)], args := [d] }
  | _ => none }
def cacheOnceRow : OpenClaim := { program := "ytbocefnfhnnbjaa", sum := "38c2fb0de65ee15e59cf287fe4fd71ab8435bf3e0ac1c53cf4d77ff9b9e66e3b", func := "dasd/dasdlaw53.CacheOnce", spec := "cacheOnce", unfollowed := true, recurses := true, plainKeys := false, apart := false }
def CacheOnceSaid : Prop := cacheOnceRow.holds Try.pinned (OpenSpec.ofChange cacheOnceSpec)

/-- ITS FALSE NEIGHBOUR: 'it returns false'. Refute it at one input. -/
def cacheOnceWrong : ChangeSpec := { name := "cacheOnce", fn := fun _ => fun
  | [d] => { results := [.lit (.bool false)], args := [d] }
  | _ => none }
def CacheOnceWrongFalsely : Prop := cacheOnceRow.holds Try.pinned (OpenSpec.ofChange cacheOnceWrong)

/-- 'dasdlaw53.CacheCoherent': WHATEVER THE INPUT: true; the input reads as it did. -/
def cacheCoherentSpec : ChangeSpec := { name := "cacheCoherent", fn := fun _ => fun
  | [d1, d2] => { results := [.lit (.bool true)], args := [d1, d2] }
  | _ => none }
def cacheCoherentRow : OpenClaim := { program := "ytbocefnfhnnbjaa", sum := "38c2fb0de65ee15e59cf287fe4fd71ab8435bf3e0ac1c53cf4d77ff9b9e66e3b", func := "dasd/dasdlaw53.CacheCoherent", spec := "cacheCoherent", unfollowed := true, recurses := true, plainKeys := false, apart := false }
def CacheCoherentSaid : Prop := cacheCoherentRow.holds Try.pinned (OpenSpec.ofChange cacheCoherentSpec)

/-- ITS FALSE NEIGHBOUR: 'it returns false'. Refute it at one input. -/
def cacheCoherentWrong : ChangeSpec := { name := "cacheCoherent", fn := fun _ => fun
  | [d1, d2] => { results := [.lit (.bool false)], args := [d1, d2] }
  | _ => none }
def CacheCoherentWrongFalsely : Prop := cacheCoherentRow.holds Try.pinned (OpenSpec.ofChange cacheCoherentWrong)

/- THE SECOND FORM. 'bulk': how many values and letters a reading holds, each counted each time it is reached (what is shared counts as often as it is met; a slice's spare places count too). A statement '..UptoSaid' is the law's where the arguments, and the package variables that the reading takes, are together of bulk at most 1048576: NARROWER than '..Said'. Prove '..Said' where nothing that the law and all that it calls make is longer than what came in: it says more and counts as full. Else prove '..UptoSaid'. A law counts once. -/
mutual
def uptoBulk {H : Type} : DataW H → Nat
  | .lit (.string bytes) => bytes.length + 1
  | .lit _ => 1
  | .nil => 1
  | .ptr d => uptoBulk d + 1
  | .slice elems spare => uptoBulkAll elems + uptoBulkAll spare + 1
  | .agg parts => uptoBulkAll parts + 1
  | .iface _ d => uptoBulk d + 1
  | .map entries => uptoBulkEntries entries + 1
  | .held _ => 1
def uptoBulkAll {H : Type} : List (DataW H) → Nat
  | [] => 0
  | d :: r => uptoBulk d + uptoBulkAll r
def uptoBulkEntries {H : Type} : List (Lit × DataW H) → Nat
  | [] => 0
  | x :: r => uptoBulkEntry x + uptoBulkEntries r
def uptoBulkEntry {H : Type} : Lit × DataW H → Nat
  | (.string bytes, d) => bytes.length + uptoBulk d + 1
  | (_, d) => uptoBulk d + 1
 end
def uptoSmall : (H : Type) → List (DataW H) → Bool := fun _ ds => decide (uptoBulkAll ds ≤ 1048576)
def OpenSpec.upto (s : _root_.Go.ChangeSpec) : _root_.Go.OpenSpec := { _root_.Go.OpenSpec.ofChange s with cond := some uptoSmall }

/-- 'dasdlaw53.CacheCalls', WHERE WHAT IT READS IS OF BULK AT MOST 1048576: true; the input reads as it did. -/
def cacheCallsUptoRow : OpenClaim := { program := "ytbocefnfhnnbjaa", sum := "38c2fb0de65ee15e59cf287fe4fd71ab8435bf3e0ac1c53cf4d77ff9b9e66e3b", func := "dasd/dasdlaw53.CacheCalls", spec := "cacheCalls", unfollowed := true, recurses := true, plainKeys := false, apart := false, narrowed := true }
def CacheCallsUptoSaid : Prop := cacheCallsUptoRow.holds Try.pinned (OpenSpec.upto cacheCallsSpec)

/-- 'dasdlaw53.CacheVersions', WHERE WHAT IT READS IS OF BULK AT MOST 1048576: true; the input reads as it did. -/
def cacheVersionsUptoRow : OpenClaim := { program := "ytbocefnfhnnbjaa", sum := "38c2fb0de65ee15e59cf287fe4fd71ab8435bf3e0ac1c53cf4d77ff9b9e66e3b", func := "dasd/dasdlaw53.CacheVersions", spec := "cacheVersions", unfollowed := true, recurses := true, plainKeys := false, apart := false, narrowed := true }
def CacheVersionsUptoSaid : Prop := cacheVersionsUptoRow.holds Try.pinned (OpenSpec.upto cacheVersionsSpec)

/-- 'dasdlaw53.CacheForgets', WHERE WHAT IT READS IS OF BULK AT MOST 1048576: true; the input reads as it did. -/
def cacheForgetsUptoRow : OpenClaim := { program := "ytbocefnfhnnbjaa", sum := "38c2fb0de65ee15e59cf287fe4fd71ab8435bf3e0ac1c53cf4d77ff9b9e66e3b", func := "dasd/dasdlaw53.CacheForgets", spec := "cacheForgets", unfollowed := true, recurses := true, plainKeys := false, apart := false, narrowed := true }
def CacheForgetsUptoSaid : Prop := cacheForgetsUptoRow.holds Try.pinned (OpenSpec.upto cacheForgetsSpec)

/-- 'dasdlaw53.CacheOnce', WHERE WHAT IT READS IS OF BULK AT MOST 1048576: true; the input reads as it did. -/
def cacheOnceUptoRow : OpenClaim := { program := "ytbocefnfhnnbjaa", sum := "38c2fb0de65ee15e59cf287fe4fd71ab8435bf3e0ac1c53cf4d77ff9b9e66e3b", func := "dasd/dasdlaw53.CacheOnce", spec := "cacheOnce", unfollowed := true, recurses := true, plainKeys := false, apart := false, narrowed := true }
def CacheOnceUptoSaid : Prop := cacheOnceUptoRow.holds Try.pinned (OpenSpec.upto cacheOnceSpec)

/-- 'dasdlaw53.CacheCoherent', WHERE WHAT IT READS IS OF BULK AT MOST 1048576: true; the input reads as it did. -/
def cacheCoherentUptoRow : OpenClaim := { program := "ytbocefnfhnnbjaa", sum := "38c2fb0de65ee15e59cf287fe4fd71ab8435bf3e0ac1c53cf4d77ff9b9e66e3b", func := "dasd/dasdlaw53.CacheCoherent", spec := "cacheCoherent", unfollowed := true, recurses := true, plainKeys := false, apart := false, narrowed := true }
def CacheCoherentUptoSaid : Prop := cacheCoherentUptoRow.holds Try.pinned (OpenSpec.upto cacheCoherentSpec)

end Rows
end Go.Proofs.Ytbocefnfhnnbjaa

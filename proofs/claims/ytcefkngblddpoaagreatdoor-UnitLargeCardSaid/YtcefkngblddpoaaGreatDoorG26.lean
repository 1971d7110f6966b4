/-
  A law of loops over a function that keeps state of its own in memory. Condition: the contract of the function.
-/
import Derived.Test.YtcefkngblddpoaaGreatDoorG25
import Derived.RangeFuncNested
import Derived.RangeFuncBound
import Derived.RangeFuncCalls
import Derived.RangeFuncLeaves
import Derived.Shelf.Abstract
import Derived.Shelf.RegionOpen
import Derived.WalkKit
import Derived.OwnWalkIn
import Derived.TacticsInMore
import Derived.LoopNIn
import Derived.LoopIn
namespace Go.Proofs.YtcefkngblddpoaaGreatDoor
open Go.RowKit Go.Sort
/-- What a round leaves as it was. -/
structure Kept (S : List Nat) (W W' : World) : Prop where
 size : W.heap.size ≤ W'.heap.size
 same : ∀ k ∈ S, k < W.heap.size → W'.heap[k]? = W.heap[k]?
theorem Kept.refl (S : List Nat) (W : World) : Kept S W W := ⟨Nat.le_refl _, fun _ _ _ => rfl⟩
theorem Kept.trans {S : List Nat} {A B C : World} (h : Kept S A B) (k : Kept S B C) : Kept S A C :=
 ⟨Nat.le_trans h.size k.size, fun i hi hl => (k.same i hi (Nat.lt_of_lt_of_le hl h.size)).trans (h.same i hi hl)⟩
theorem Kept.sub {S T : List Nat} {A B : World} (h : Kept S A B) (hs : ∀ k ∈ T, k ∈ S) : Kept T A B := ⟨h.size, fun k hk => h.same k (hs k hk)⟩
theorem Only.kept {S T : List Nat} {A B : World} (h : Only S A B) (hs : ∀ k ∈ T, k ∉ S) : Kept T A B := ⟨h.size, fun k hk hl => h.block k hl (hs k hk)⟩
end Go.Proofs.YtcefkngblddpoaaGreatDoor

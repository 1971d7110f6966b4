/-
  A content after a change, by the reference. Conditions: pairs in memory, not too many.
-/
import Derived.Test.YtckpepfkfjdnhaaGreatDoorQJ43
namespace Go.Proofs.YtckpepfkfjdnhaaGreatDoor
open Go.RowKit Go.Sort
variable {z : Rest}

theorem DoRet.any {org fmt len blk : Int} {a0 : Option Addr} {w w' : World} {r : Int × Int × List Pr} {e : Ending} (h : DoRet z org fmt len blk none w r e w') : DoRet z org fmt len blk a0 w r e w' := by
 obtain ⟨⟨cs, h1, h2, h3⟩, hb⟩ := h
 refine ⟨⟨cs, h1, fun h0 => ?_, h3⟩, hb⟩
 obtain ⟨a, c, k1, k2, k3, k4, k5⟩ := h2 h0
 refine ⟨a, c, k1, k2, k3, k4, fun p hp => Or.inr ?_⟩
 rcases k5 p hp with h | h
 · rw [h] at hp; cases hp
 · exact h
end Go.Proofs.YtckpepfkfjdnhaaGreatDoor

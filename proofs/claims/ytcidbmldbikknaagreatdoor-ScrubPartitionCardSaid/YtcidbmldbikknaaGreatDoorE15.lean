/-
  Walk: the owners of all tracks, by the reference. Conditions: a table in memory; numbers of 64 bits.
-/
import Derived.Test.YtcidbmldbikknaaGreatDoorE12
import Derived.Test.YtcidbmldbikknaaGreatDoorE14
namespace Go.Proofs.YtcidbmldbikknaaGreatDoor
open Go.RowKit Go.Sort
attribute [local go_sem ↓] loadRn_down storeRn_down loadLab_down storeLab_down loadTab_down storeRef_down

/-- What a track belongs to. -/
def mapV (tr : Int) (l : List Lab) (i : Nat) : Int := if (i : Int) < ttP tr then -1 else (ownV (ownerP l (8 * (i : Int)))).1
def mapP (tr : Int) (l : List Lab) : List Int := (List.range (trP tr).toNat).map (mapV tr l)
theorem mapP_len (tr : Int) (l : List Lab) : (mapP tr l).length = (trP tr).toNat := by simp [mapP]
theorem mapP_get (tr : Int) (l : List Lab) (i : Nat) (h : i < (mapP tr l).length) : (mapP tr l)[i] = mapV tr l i := by simp [mapP]
theorem trP_le (tr : Int) : 0 ≤ trP tr ∧ trP tr ≤ 128 := by unfold trP; split <;> omega
theorem ints_slice {w : World} {base : Nat} {e : TypeId} {v : Value} {n : Nat} {xs : List Value} (h : w.ownsRow base e 1 v n xs) : ∃ a c, v = .slice a n c := int_slice h

end Go.Proofs.YtcidbmldbikknaaGreatDoor

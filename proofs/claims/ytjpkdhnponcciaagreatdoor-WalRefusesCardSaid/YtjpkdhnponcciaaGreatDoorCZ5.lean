/-
  Walks: IndexFunc and ContainsFunc at pointers and pairs. Conditions: the elements in memory; the closure's contract. Walks: the place of a key among pairs, by the program and by the reference. Conditions: pairs in memory, not too many. Rows of pairs, cell by cell; the walk of a copy of pairs. Condition: pairs in memory, not too many.
  Walks: the validity of an archive, by the program. Conditions: pairs in memory, not too many.
  Walks: the validity of an archive, by the reference. Conditions: pairs in memory, not too many. Walks: whether a description is valid and whether a pair may be in a data set, by the program. Condition: the laid table of segments' codes. Walks: whether a pair may be in a data set, by the program. Conditions: the description is valid; the laid table of segments' codes.
  Walks: the end behind pairs, by the program; the address of a record, by the reference. Conditions: not too many pairs. Walk: whether a content is valid, by the program. Conditions: not too many pairs; the laid table of segments' codes.
  Walks: the records of pairs, by the reference. Condition: not too many pairs. Walks: the address of a record, by the reference. Conditions: not too many pairs; addresses that are not too large.
  Walk: whether a content is valid, by the reference. Conditions: not too many pairs.
  Walk: whether a content is valid, by the reference. Conditions: not too many pairs.
  Walk: whether a content is valid, by the reference. Conditions: not too many pairs.
  Walk: whether a content is valid, by the reference. Conditions: not too many pairs. Walk: whether a content is valid, by the reference. Conditions: not too many pairs.
  Walk: slices.Insert of one pair into a row that the call owns. No condition but the row's length. Walk: slices.Insert of one pair into a row that the call owns. No condition but the row's length. Walk: slices.Insert of one pair into a row that the call owns, in its midst, where there is room. No condition but the row's length. Walk: slices.Insert of one pair into a row that the call owns: wherever it is, with room or without. No condition but the row's length. Walk: slices.Delete of one pair from a row that the call owns. No condition but the row's length. Walks: whether records are changed by their keys, whether a record can have a key, by the program. No condition but the key's length.
-/
import Derived.Test.YtjpkdhnponcciaaGreatDoorCZ4
import Derived.Test.YtjpkdhnponcciaaGreatDoorCBG
import Derived.Test.YtjpkdhnponcciaaGreatDoorCBB
import Derived.Test.YtjpkdhnponcciaaGreatDoorCZ3
import Derived.BigQuiet
import Derived.StillTailTactics
import Derived.Deep.MidRow
import Derived.Deep.RegionHeld3
import Derived.Lib.QuietBelow
import Derived.Deep.RegionLaw
import Derived.Laws.CopyRow
import Derived.Lib.Overlaps
import Derived.Lib.AppendZerosOnto
import Derived.Lib.Walk
namespace Go.Proofs.YtjpkdhnponcciaaGreatDoor

section
section
open Go.RowKit Go.Sort

/-- The index of the first element that meets p, or -1. -/
def fidx {α : Type} (p : α → Bool) (l : List α) : Int := match l.findIdx? p with
 | some i => (i : Int)
 | none => -1
theorem fidx_none {α : Type} {p : α → Bool} {l : List α} (h : ∀ x ∈ l, p x = false) : fidx p l = -1 := by
 unfold fidx
 have : l.findIdx? p = none := by rw [List.findIdx?_eq_none_iff]; exact h
 rw [this]
theorem fidx_at {α : Type} {p : α → Bool} {l : List α} {j : Nat} (hj : j < l.length) (h : ∀ x ∈ l.take j, p x = false) (hp : p l[j] = true) : fidx p l = (j : Int) := by
 unfold fidx
 have : l.findIdx? p = some j := by
   rw [List.findIdx?_eq_some_iff_getElem]
   refine ⟨hj, hp, fun i hi => ?_⟩
   have := h l[i] (List.mem_take_iff_getElem.2 ⟨i, by omega, rfl⟩)
   rw [this]; simp
 rw [this]
theorem fidx_any {α : Type} {p : α → Bool} {l : List α} (h : l.any p = true) : 0 ≤ fidx p l := by
 unfold fidx
 cases hq : l.findIdx? p with
 | some i => simp
 | none =>
   rw [List.findIdx?_eq_none_iff] at hq
   obtain ⟨x, hx, hp⟩ := List.any_eq_true.1 h
   rw [hq x hx] at hp; cases hp

/-- Pointers in memory. -/
structure Ptrs (w : World) (B : Nat) (a : Option Addr) (l : List Addr) : Prop where
 cells : l ≠ [] → ∃ b off, a = some ⟨b, off, none⟩ ∧ b < B ∧ ∀ i (h : i < l.length), w.cell? ⟨b, off + i, none⟩ = some (.pointer (some l[i]))
theorem Ptrs.get {w : World} {B a l} (h : Ptrs w B a l) {i : Nat} (hi : i < l.length) : ∃ b off, a = some ⟨b, off, none⟩ ∧ b < B ∧ w.cell? ⟨b, off + i, none⟩ = some (.pointer (some l[i])) := by
 obtain ⟨b, off, h1, h2, h3⟩ := h.cells (fun e => by rw [e] at hi; simp at hi)
 exact ⟨b, off, h1, h2, h3 i hi⟩
end

section
open Go.RowKit Go.Sort

end

section
open Go.RowKit Go.Sort

end
end

section
open Go.RowKit Go.Sort
variable {z : Rest}

section
end
end

section
section
open Go.RowKit Go.Sort
variable {z : Rest}

section
end
end

section
open Go.RowKit Go.Sort
variable {z : Rest}

section
end
end

section
open Go.RowKit Go.Sort
variable {z : Rest}

section
end
end
end

section
section
open Go.RowKit Go.Sort
variable {z : Rest}

section
end
end

section
open Go.RowKit Go.Sort
variable {z : Rest}

section
end
end
end

section
section
open Go.RowKit Go.Sort
variable {z : Rest}

end

section
open Go.RowKit Go.Sort
variable {z : Rest}

end
end

section
open Go.RowKit Go.Sort
variable {z : Rest}

section
end
end

section
open Go.RowKit Go.Sort
variable {z : Rest}

section
end
end

section
open Go.RowKit Go.Sort
variable {z : Rest}

section
end
end

section
section
open Go.RowKit Go.Sort
variable {z : Rest}

section
end
end

section
open Go.RowKit Go.Sort
variable {z : Rest}

section
end
end
end

section
section
open Go.RowKit Go.Sort

end

section
open Go.RowKit Go.Sort
end

section
open Go.RowKit Go.Sort
end

section
open Go.RowKit Go.Sort

end

section
open Go.RowKit Go.Sort

end

section
open Go.RowKit Go.Sort
variable {z : Rest}

section
end
end
end

end Go.Proofs.YtjpkdhnponcciaaGreatDoor

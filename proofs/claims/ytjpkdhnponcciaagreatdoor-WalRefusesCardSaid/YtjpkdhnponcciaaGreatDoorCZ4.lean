/-
  Walks: the sizes of intervals, by the program. Conditions: not too many records, nor too long ones. Walks: whether records fit in an interval, by the program and by the reference. Conditions: not too many records, nor too long ones.
  Walks: records of the same length, packed by the program. Conditions: valid sizes, at most 1000 records of the length. Walks: the sectors of a stream, by the program and by the reference. Condition: a stream of at most 1,000,000,000 bytes.
  Plain bounds of blocks; what is allowed and what is packed, for any format.
  Walks: what a data set with some records contains, by the program. Conditions: valid sizes, at most 900 records of allowed lengths.
  Contracts for any format: what is allowed, what is packed, by the program and by the reference. Walks: Build, by the program. Conditions: at most 900 records; a slice's capacity is a number; the table of codes is laid. Walks: Build and Format, by the program, for any description and number.
  Walks: Build and Format, by the reference. Condition: at most 900 records.
  Walks: where the next record of an entry-sequenced data set begins, by the program. Conditions: not too many records. Walks: the end behind pairs, by the program; pairs in memory. Conditions: not too many pairs.
-/
import Derived.Test.YtjpkdhnponcciaaGreatDoorCBJ2
import Derived.Test.YtjpkdhnponcciaaGreatDoorCBB
import Derived.Test.YtjpkdhnponcciaaGreatDoorCZ1
import Derived.Test.YtjpkdhnponcciaaGreatDoorShelf
import Derived.Test.YtjpkdhnponcciaaGreatDoorCZ2
import Derived.Test.YtjpkdhnponcciaaGreatDoorCZ3
import Derived.Deep.QuietTactic
import Derived.BigQuiet
import Derived.Great.Walk
import Derived.Lib.QuietBelow
import Derived.Deep.RegionHeld3
namespace Go.Proofs.YtjpkdhnponcciaaGreatDoor

section
section
open Go.RowKit Go.Sort

/-- What the loop of runs holds. -/
structure RunSt (w : World) (B g T : Nat) (W : World) (A : Option Addr) (C : Nat) (rem : List By) (s : Nat) : Prop where
 onl : Only [g] w W
 str : Strs W B A rem
 cap : rem.length ≤ C
 cel : W.heap[g]? = some (.cells #[.int .i64 (s : Int)] 3 (0, 0))
 tot : s + sizeF rem.length (rem.map List.length) = T
theorem RunSt.step {w W : World} {B g T : Nat} {A : Option Addr} {C s : Nat} {r : By} {rem : List By} (h : RunSt w B g T W A C (r :: rem) s) :
   T = (s + ((headN r.length (rem.map List.length) + 1) * r.length + 3 * min (headN r.length (rem.map List.length) + 1) 2)) + sizeF (rem.drop (headN r.length (rem.map List.length))).length ((rem.drop (headN r.length (rem.map List.length))).map List.length) := by
 rw [← h.tot, List.length_cons, List.map_cons, sizeF, List.map_drop]
 have hle := headN_le r.length (rem.map List.length)
 rw [List.length_map] at hle
 rw [sizeF_fuel rem.length (rem.drop (headN r.length (rem.map List.length))).length _ (by rw [List.length_drop, List.length_map]; omega) (by rw [List.length_drop, List.length_drop, List.length_map]; omega)]
 omega
end

section
open Go.RowKit Go.Sort
attribute [local go_sem] ByteArray.mk_append_mk

end
end

section
section
open Go.RowKit Go.Sort
attribute [local go_sem] ByteArray.mk_append_mk strOfNums_size ext_drop ext_take

end

section
open Go.RowKit Go.Sort
attribute [local go_sem] ByteArray.mk_append_mk strOfNums_size ext_drop ext_take

end
end

section
open Go.RowKit Go.Sort
end

section
open Go.RowKit Go.Sort
variable {z : Rest}
attribute [local go_sem] ByteArray.mk_append_mk strOfNums_size
end

section
section
open Go.RowKit Go.Sort
variable {z : Rest}

end

section
open Go.RowKit Go.Sort
variable {z : Rest}
end

section
open Go.RowKit Go.Sort
variable {z : Rest}

end
end

section
open Go.RowKit Go.Sort
variable {z : Rest}
end

section
section
open Go.RowKit Go.Sort
variable {z : Rest}

abbrev enC (page : Nat) (A : Option Addr) (n C : Nat) (used : Nat) : Array Value := #[.int .i64 (page : Int), .slice A n C, .int .i64 (used : Int)]
structure EnAt (w : World) (B : Nat) (x : En) (cs : Array Value) : Prop where
 ex : ∃ A C, cs = enC x.page A x.on.length C x.used ∧ Strs w B A x.on ∧ x.on.length ≤ C ∧ C ≤ 9223372036854775807
theorem heap_setRow_other' (w : World) {g i : Nat} (cs : Array Value) (hi : i < w.heap.size) (h : i ≠ g) : (w.setRow g cs).heap[i]? = w.heap[i]? :=
 (Only.setRow (Only.refl [g] w) (Or.inl (by simp)) cs).block i hi (by simpa using h)
theorem one_en {a b : Int} {A : Option Addr} {n C : Nat} : (#[Value.int .i64 a, .slice A n C, .int .i64 b] : Array Value).all (·.oneCell') = true := by simp [Value.oneCell']
end

section
open Go.RowKit Go.Sort
variable {z : Rest}

/-- Pairs in memory, below block B. -/
structure Prs (w : World) (B : Nat) (a : Option Addr) (l : List Pr) : Prop where
 cells : l ≠ [] → ∃ b off, a = some ⟨b, off, none⟩ ∧ b < B ∧ ∀ i (h : i < l.length), w.cell? ⟨b, off + i * 2, none⟩ = some (.string ⟨l[i].1.toArray⟩) ∧ w.cell? ⟨b, off + i * 2 + 1, none⟩ = some (.string ⟨l[i].2.toArray⟩)
theorem Prs.below {w w' : World} {B a l} (h : Prs w B a l) (hb : Below B w w') : Prs w' B a l :=
 ⟨fun hl => by
   obtain ⟨b, off, h1, h2, h3⟩ := h.cells hl
   exact ⟨b, off, h1, h2, fun i hi => ⟨(hb.cell (p := ⟨b, off + i * 2, none⟩) h2).trans (h3 i hi).1, (hb.cell (p := ⟨b, off + i * 2 + 1, none⟩) h2).trans (h3 i hi).2⟩⟩⟩
theorem Prs.mono {w : World} {B B' a l} (h : Prs w B a l) (hB : B ≤ B') : Prs w B' a l :=
 ⟨fun hl => by obtain ⟨b, off, h1, h2, h3⟩ := h.cells hl; exact ⟨b, off, h1, by omega, h3⟩⟩
theorem Prs.get {w : World} {B a l} (h : Prs w B a l) {i : Nat} (hi : i < l.length) : ∃ b off, a = some ⟨b, off, none⟩ ∧ b < B ∧ w.cell? ⟨b, off + i * 2, none⟩ = some (.string ⟨l[i].1.toArray⟩) ∧ w.cell? ⟨b, off + i * 2 + 1, none⟩ = some (.string ⟨l[i].2.toArray⟩) := by
 obtain ⟨b, off, h1, h2, h3⟩ := h.cells (fun e => by rw [e] at hi; simp at hi)
 exact ⟨b, off, h1, h2, h3 i hi⟩
theorem Prs.take {w : World} {B a l} (h : Prs w B a l) (k : Nat) : Prs w B a (l.take k) :=
 ⟨fun hl => by
   have hn : l ≠ [] := fun e => hl (by rw [e]; simp)
   obtain ⟨b, off, h1, h2, h3⟩ := h.cells hn
   refine ⟨b, off, h1, h2, fun i hi => ?_⟩
   have hi' : i < l.length := by rw [List.length_take] at hi; omega
   rw [List.getElem_take]; exact h3 i hi'⟩

theorem EnAt.below {w w' : World} {B : Nat} {x : En} {cs : Array Value} (h : EnAt w B x cs) (hb : Below B w w') : EnAt w' B x cs := by
 obtain ⟨A, C, h1, h2, h3⟩ := h.ex; exact ⟨A, C, h1, h2.below hb, h3⟩
theorem EnAt.mono {w : World} {B B' : Nat} {x : En} {cs : Array Value} (h : EnAt w B x cs) (hB : B ≤ B') : EnAt w B' x cs := by
 obtain ⟨A, C, h1, h2, h3⟩ := h.ex; exact ⟨A, C, h1, h2.mono hB, h3⟩
theorem EnAt.size {w : World} {B : Nat} {x : En} {cs : Array Value} (h : EnAt w B x cs) : cs.size = 3 := by
 obtain ⟨A, C, rfl, _⟩ := h.ex; rfl
theorem EnAt.one {w : World} {B : Nat} {x : En} {cs : Array Value} (h : EnAt w B x cs) : cs.all (·.oneCell') = true := by
 obtain ⟨A, C, rfl, _⟩ := h.ex; exact one_en
/-- A store into a block without texts. -/
theorem EnAt.setRow {w : World} {B g : Nat} {x y : En} {cs old cs' : Array Value} {t : TypeId} {fr : Nat × Nat} (h : EnAt w B x cs) (hy : ∃ A C, old = enC y.page A y.on.length C y.used) (hg : w.heap[g]? = some (.cells old t fr)) (hB : B ≤ w.heap.size) : EnAt (w.setRow g cs') B x cs := by
 obtain ⟨A, C, h1, h2, h3⟩ := h.ex
 refine ⟨A, C, h1, ⟨fun hn => ?_⟩, h3⟩
 obtain ⟨b, off, rfl, hb, hc⟩ := h2.cells hn
 refine ⟨b, off, rfl, hb, fun i hi => ?_⟩
 have hbg : b ≠ g := by
   rintro rfl
   have := hc i hi
   rw [cell_of_row w b _ old t fr hg] at this
   obtain ⟨A', C', rfl⟩ := hy
   rcases (show off + i = 0 ∨ off + i = 1 ∨ off + i = 2 ∨ 3 ≤ off + i by omega) with e | e | e | e
   · rw [e] at this; simp [enC] at this
   · rw [e] at this; simp [enC] at this
   · rw [e] at this; simp [enC] at this
   · rw [Array.getElem?_eq_none (by simpa [enC] using e)] at this; cases this
 exact (show (w.setRow g cs').cell? ⟨b, off + i, none⟩ = w.cell? ⟨b, off + i, none⟩ by
   unfold World.cell?
   rw [heap_setRow_other' w cs' (by omega) hbg]).trans (hc i hi)
end
end

end Go.Proofs.YtjpkdhnponcciaaGreatDoor

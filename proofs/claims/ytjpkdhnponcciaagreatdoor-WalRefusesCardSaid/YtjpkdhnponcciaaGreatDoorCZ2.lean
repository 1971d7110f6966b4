/-
  Walks: the validity of a description of a cluster, by the program. No condition. Walks: the validity of a description of a cluster, by the reference. No condition.
  Walks: a record behind a last block, as the reference puts it. Conditions: block sizes of 9 to 1024, texts of at most 2000 bytes. Walks: records of the same length, packed by the reference. Conditions: valid sizes, at most 40000 records of the length. Walks: whether a list holds a record of a kind that a closure tells. Condition: the closure answers and changes nothing.
  Walks: records that may be longer than a block, packed by the program. Conditions: valid sizes, at most 1000 records of at most the length. Walks: the head of a data set, by the program.
  Walks: the format of a description, as the program has it. Walks: whether a record is of an allowed length. Walks: whether records are allowed, by the program. Walks: whether a description is valid, by the program. No condition. Walks: whether a description is valid, by the program: all cases. No condition. Walks: records with lengths of their own, packed by the program. Conditions: valid sizes, at most 1000 records of at most the length.
-/
import Derived.Test.YtjpkdhnponcciaaGreatDoorCBB
import Derived.Test.YtjpkdhnponcciaaGreatDoorCZ1
import Derived.Deep.DeepCutAuto
namespace Go.Proofs.YtjpkdhnponcciaaGreatDoor

section
section
open Go.RowKit Go.Sort
variable {z : Rest}

end

section
open Go.RowKit Go.Sort
variable {z : Rest}

end
end

section
section
open Go.RowKit Go.Sort
attribute [local go_sem] ByteArray.mk_append_mk strOfNums_size ext_drop ext_take

theorem putB_ne (size : Nat) : ∀ (f : Nat) (b : Bool) (blk r : By), putB size f b blk r ≠ []
 | 0, _, _, _ => by simp [putB]
 | f + 1, b, blk, r => by
   unfold putB
   simp only
   split
   · simp
   · split <;> simp

/-- The head of the reference's loop. -/
structure PutSt (w : World) (size : Nat) (T : List By) (W : World) (ol : List By) (blk rs : By) (bf : Bool) (v : Value) (f : Nat) : Prop where
 bel : Below w.heap.size w W
 own : W.ownsRow w.heap.size 9 1 v (ol ++ [blk]).length ((ol ++ [blk]).map sv)
 tot : T = ol ++ putB size f bf blk rs
 fuel : rs.length + (if blk = [] then 1 else 2) ≤ f
 len : rs.length ≤ 2000
 big : blk ≠ [] → 4 ≤ blk.length
 sml : blk.length ≤ 2000
theorem PutSt.small {w W : World} {size : Nat} {T ol : List By} {blk rs : By} {bf : Bool} {v : Value} {f : Nat} (h : PutSt w size T W ol blk rs bf v f) : ol.length + 1 ≤ T.length := by
 rw [h.tot, List.length_append]
 have := List.length_pos_iff.2 (putB_ne size f bf blk rs)
 omega
end

section
open Go.RowKit Go.Sort
attribute [local go_sem] ByteArray.mk_append_mk strOfNums_size ext_drop ext_take

/-- All texts before the j-th are of a kind. -/
structure AllTo (p : By → Bool) (l : List By) (j : Nat) : Prop where
 all : ∀ i (h : i < l.length), i < j → p l[i] = true
theorem AllTo.zero (p : By → Bool) (l : List By) : AllTo p l 0 := ⟨fun i _ h => absurd h (by omega)⟩
theorem AllTo.succ {p : By → Bool} {l : List By} {j : Nat} (h : AllTo p l j) (hj : j < l.length) (hp : p l[j] = true) : AllTo p l (j + 1) :=
 ⟨fun i hi h2 => by
   rcases Nat.lt_or_ge i j with h3 | h3
   · exact h.all i hi h3
   · have e : i = j := by omega
     subst e; exact hp⟩
theorem AllTo.done {p : By → Bool} {l : List By} {j : Nat} (h : AllTo p l j) (hj : l.length ≤ j) : l.all p = true := by
 rw [List.all_eq_true]; intro x hx
 obtain ⟨i, hi, rfl⟩ := List.mem_iff_getElem.1 hx
 exact h.all i hi (by omega)
/-- What a packing gives: the blocks, or that a record is not allowed. -/
structure PackPost (w : World) (ok : Bool) (V : List By) (e : Ending) (w' : World) : Prop where
 good : ok = true → ∃ v, e = .returned (.tuple #[v, .int .i64 0]) ∧ w'.ownsRow w.heap.size 9 1 v V.length (V.map sv)
 bad : ok = false → e = .returned (.tuple #[.slice none 0 0, .int .i64 2])
 bel : Below w.heap.size w w'
end

section
open Go.RowKit Go.Sort
attribute [local go_sem] ByteArray.mk_append_mk strOfNums_size ext_drop ext_take
end
end

section
section
open Go.RowKit Go.Sort
attribute [local go_sem] ByteArray.mk_append_mk strOfNums_size ext_drop ext_take

end

section
open Go.RowKit Go.Sort
attribute [local go_sem] ByteArray.mk_append_mk strOfNums_size ext_drop ext_take

end
end

section
section
open Go.RowKit Go.Sort
variable {z : Rest}

end

section
open Go.RowKit Go.Sort
attribute [local go_sem] strOfNums_size
end

section
open Go.RowKit Go.Sort
variable {z : Rest}
end

section
open Go.RowKit Go.Sort
variable {z : Rest}
end

section
open Go.RowKit Go.Sort
variable {z : Rest}
end

section
open Go.RowKit Go.Sort
attribute [local go_sem] ByteArray.mk_append_mk strOfNums_size ext_drop ext_take

end
end

end Go.Proofs.YtjpkdhnponcciaaGreatDoor

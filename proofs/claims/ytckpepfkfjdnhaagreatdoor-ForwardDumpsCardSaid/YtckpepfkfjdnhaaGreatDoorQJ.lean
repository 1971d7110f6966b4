/-
  Walks: records that may be longer than a block, packed by the reference. Conditions: valid sizes, at most 40000 records of at most the length.
  Walks: the blocks of records of a description, by the reference. Conditions: valid sizes, at most 40000 records.
-/
import Derived.Test.YtckpepfkfjdnhaaGreatDoorQS17
import Derived.Test.YtckpepfkfjdnhaaGreatDoorQE
import Derived.Test.YtckpepfkfjdnhaaGreatDoorQI
import Derived.Test.YtckpepfkfjdnhaaGreatDoorQD
import Derived.Test.YtckpepfkfjdnhaaGreatDoorQS27
namespace Go.Proofs.YtckpepfkfjdnhaaGreatDoor

section
open Go.RowKit Go.Sort
attribute [local go_sem] ByteArray.mk_append_mk strOfNums_size ext_drop ext_take

section
variable {ops : Array Oper} {o : Oper} {a : Act} {w : World} {K : Act → World → Prop} {Q : Exit → Act → World → Prop} {E : Prop}
end

end

section
open Go.RowKit Go.Sort
variable {z : Rest}

/-- PackPost by its results. -/
structure PackVal (w : World) (ok : Bool) (V : List By) (v : Value) (k : Int) (w' : World) : Prop where
 good : ok = true → k = 0 ∧ w'.ownsRow w.heap.size 9 1 v V.length (V.map sv)
 bad : ok = false → k = 2 ∧ v = .slice none 0 0
 bel : Below w.heap.size w w'
theorem PackPost.val {w w' : World} {ok : Bool} {V : List By} {e : Ending} (h : PackPost w ok V e w') : ∃ v k, e = .returned (.tuple #[v, .int .i64 k]) ∧ PackVal w ok V v k w' := by
 cases ok
 · exact ⟨_, _, h.bad rfl, (fun h => by cases h), fun _ => ⟨rfl, rfl⟩, h.bel⟩
 · obtain ⟨v, he, ho⟩ := h.good rfl
   exact ⟨_, _, he, fun _ => ⟨rfl, ho⟩, (fun h => by cases h), h.bel⟩
theorem PackVal.post {w w' : World} {ok : Bool} {V : List By} {v : Value} {k : Int} (h : PackVal w ok V v k w') : PackPost w ok V (.returned (.tuple #[v, .int .i64 k])) w' :=
 ⟨fun e => ⟨v, by rw [(h.good e).1], (h.good e).2⟩, fun e => by rw [(h.bad e).1, (h.bad e).2], h.bel⟩
theorem PackVal.from {w w1 w' : World} {ok : Bool} {V : List By} {v : Value} {k : Int} (h : PackVal w1 ok V v k w') (hb : Below w.heap.size w w1) : PackVal w ok V v k w' :=
 ⟨fun e => ⟨(h.good e).1, own_mono (h.good e).2 hb.size⟩, h.bad, hb.trans (h.bel.mono hb.size)⟩

end

end Go.Proofs.YtckpepfkfjdnhaaGreatDoor

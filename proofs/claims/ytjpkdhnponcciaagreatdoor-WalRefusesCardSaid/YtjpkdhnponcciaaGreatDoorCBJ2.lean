/-
  Walks: numbers as keys, by the program and by the reference. Condition: the number can be stored; a key of a sensible length.
-/
import Derived.Test.YtjpkdhnponcciaaGreatDoorCBJ1
import Derived.Test.YtjpkdhnponcciaaGreatDoorCBB
import Derived.Test.YtjpkdhnponcciaaGreatDoorCZ3
import Derived.Lib.ConvBytes
import Derived.Laws.BitsAllLaws
namespace Go.Proofs.YtjpkdhnponcciaaGreatDoor
open Go.RowKit Go.Sort
attribute [local go_sem] ByteArray.mk_append_mk

section
variable {P : Program} {w : World}
end
/-- The bytes of a text, as a row. -/
theorem str_row (k : By) (w : World) : ∃ W c, (convert 9 70 (.string ⟨k.toArray⟩)).run Tryz.prog w = .ok (.slice (some ⟨w.heap.size, 0, none⟩) k.length c) W ∧ Below w.heap.size w W ∧ w.heap.size < W.heap.size ∧
   ∀ (i : Nat) (h : i < k.length), W.cell? ⟨w.heap.size, i, none⟩ = some (.int .u8 (k[i].toNat : Int)) := by
 refine ⟨_, _, Lib.run_convert_string_bytes (P := Tryz.prog) w 9 70 5 ⟨k.toArray⟩ Tryz.underlying9 Tryz.underlying70 Tryz.underlying5, ?_, ?_, fun i h => ?_⟩
 · exact ⟨rfl, rfl, rfl, by rw [Lib.bytesWorld_size]; omega, fun j hj => Lib.bytesWorld_at_old w _ _ j hj⟩
 · rw [Lib.bytesWorld_size]; omega
 · rw [Lib.bytesWorld_cell _ _ _ _ (by show i < k.toArray.size; simpa using h)]
   simp [List.getD, h]
end Go.Proofs.YtjpkdhnponcciaaGreatDoor

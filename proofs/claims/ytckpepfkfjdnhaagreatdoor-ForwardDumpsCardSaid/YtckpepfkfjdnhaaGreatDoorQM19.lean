/-
  Walks: the stream of blocks, by the reference. Condition: blocks of at most 60,000 bytes, a stream of at most 1,000,000,000.
  Walk: the stream of S19, for up to ten million blocks.
-/
import Derived.Test.YtckpepfkfjdnhaaGreatDoorQC
namespace Go.Proofs.YtckpepfkfjdnhaaGreatDoor

section
open Go.RowKit Go.Sort
attribute [local go_sem] ByteArray.mk_append_mk strOfNums_size ext_drop ext_take

theorem streamOf_snoc (l : List By) (r : By) : streamOf (l ++ [r]) = streamOf l ++ le2 r.length ++ r := by simp [streamOf]
theorem streamOf_take_le (l : List By) (k : Nat) : (streamOf (l.take k)).length ≤ (streamOf l).length := by
 have e : streamOf l = streamOf (l.take k) ++ streamOf (l.drop k) := by unfold streamOf; rw [← List.flatten_append, ← List.map_append, List.take_append_drop]
 rw [e, List.length_append]; omega
theorem streamOf_get_le (l : List By) (k : Nat) (h : k < l.length) : (streamOf (l.take k)).length + 2 + l[k].length ≤ (streamOf l).length := by
 have h1 := streamOf_take_le l (k + 1)
 rw [take_snoc' l k h, streamOf_snoc] at h1
 simp [le2] at h1 ⊢
 omega
theorem le2_str (n : Nat) : strOfNums [(n : Int) % 256, (n : Int) / 256] = bs (le2 n) := by
 unfold strOfNums le2
 have e1 : UInt8.ofNat ((n : Int) / 256).toNat = b8 (n / 256) := ofN (n / 256)
 have e2 : UInt8.ofNat ((n : Int) % 256).toNat = b8 (n % 256) := ofN (n % 256)
 simp only [List.map_cons, List.map_nil, e1, e2]

end

section
open Go.RowKit Go.Sort
attribute [local go_sem] ByteArray.mk_append_mk strOfNums_size ext_drop ext_take

end

end Go.Proofs.YtckpepfkfjdnhaaGreatDoor

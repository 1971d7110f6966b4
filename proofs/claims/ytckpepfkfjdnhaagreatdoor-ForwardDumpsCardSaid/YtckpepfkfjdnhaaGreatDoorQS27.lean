/-
  Walks: records with lengths of their own, packed by the reference. Conditions: valid sizes, at most 40000 records of at most the length.
-/
import Derived.Test.YtckpepfkfjdnhaaGreatDoorQE
import Derived.Test.YtckpepfkfjdnhaaGreatDoorQI
namespace Go.Proofs.YtckpepfkfjdnhaaGreatDoor
open Go.RowKit Go.Sort
attribute [local go_sem] ByteArray.mk_append_mk strOfNums_size ext_drop ext_take

end Go.Proofs.YtckpepfkfjdnhaaGreatDoor

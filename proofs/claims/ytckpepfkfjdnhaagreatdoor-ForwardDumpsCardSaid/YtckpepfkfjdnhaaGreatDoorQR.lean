/-
  Walks: the records of pairs, by the reference. Condition: not too many pairs.
  Walks: the address of a record, by the reference. Conditions: not too many pairs; addresses that are not too large.
-/
import Derived.Test.YtckpepfkfjdnhaaGreatDoorQQ
import Derived.Test.YtckpepfkfjdnhaaGreatDoorQI
import Derived.Deep.RegionHeld3
namespace Go.Proofs.YtckpepfkfjdnhaaGreatDoor

section
open Go.RowKit Go.Sort
variable {z : Rest}

end

section
open Go.RowKit Go.Sort
variable {z : Rest}

end

end Go.Proofs.YtckpepfkfjdnhaaGreatDoor

/-
  Walk: slices.Insert of one pair into a row that the call owns. No condition but the row's length. Walk: slices.Insert of one pair into a row that the call owns. No condition but the row's length. Walk: slices.Insert of one pair into a row that the call owns, in its midst, where there is room. No condition but the row's length. Walk: slices.Insert of one pair into a row that the call owns: wherever it is, with room or without. No condition but the row's length. Walk: slices.Delete of one pair from a row that the call owns. No condition but the row's length. Walks: whether records are changed by their keys, whether a record can have a key, by the program. No condition but the key's length.
-/
import Derived.Test.YtcefkngblddpoaaGreatDoorG10
import Derived.Test.YtcefkngblddpoaaGreatDoorG15
import Derived.Deep.RegionLaw
import Derived.Laws.CopyRow
import Derived.Lib.Overlaps
import Derived.Lib.AppendZerosOnto
import Derived.Lib.Walk
namespace Go.Proofs.YtcefkngblddpoaaGreatDoor
section
open Go.RowKit Go.Sort
end
section
open Go.RowKit Go.Sort
end
section
open Go.RowKit Go.Sort
end
section
open Go.RowKit Go.Sort
end
section
open Go.RowKit Go.Sort
end
section
open Go.RowKit Go.Sort
variable {z : Rest}
section
attribute [local go_sem ↓] loadDs_down
end
end
end Go.Proofs.YtcefkngblddpoaaGreatDoor

/-
  Walk: whether a content is valid, by the reference. Conditions: not too many pairs.
-/
import Derived.Test.YtckpepfkfjdnhaaGreatDoorQR
import Derived.Deep.RegionHeld3
import Derived.Lib.QuietBelow
namespace Go.Proofs.YtckpepfkfjdnhaaGreatDoor
open Go.RowKit Go.Sort
variable {z : Rest}

section
attribute [local go_sem ↓] loadDs_down storeDs_down
end

end Go.Proofs.YtckpepfkfjdnhaaGreatDoor

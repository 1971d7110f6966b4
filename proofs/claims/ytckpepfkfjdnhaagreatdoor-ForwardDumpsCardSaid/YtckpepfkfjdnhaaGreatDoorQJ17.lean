/-
  Walk: whether a content is valid, by the reference. Conditions: not too many pairs.
  Walk: whether a content is valid, by the reference. Conditions: not too many pairs.
-/
import Derived.Test.YtckpepfkfjdnhaaGreatDoorQR
import Derived.Test.YtckpepfkfjdnhaaGreatDoorQJ17A
import Derived.Test.YtckpepfkfjdnhaaGreatDoorQJ17B
import Derived.Test.YtckpepfkfjdnhaaGreatDoorQJ17C
import Derived.Deep.RegionHeld3
import Derived.Lib.QuietBelow
namespace Go.Proofs.YtckpepfkfjdnhaaGreatDoor

section
open Go.RowKit Go.Sort
variable {z : Rest}

section
attribute [local go_sem ↓] loadDs_down storeDs_down
end
end

section
open Go.RowKit Go.Sort
variable {z : Rest}

section
attribute [local go_sem ↓] loadDs_down storeDs_down
end
end

end Go.Proofs.YtckpepfkfjdnhaaGreatDoor

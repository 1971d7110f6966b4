/-
  Walk: a content after a change, by the reference: a change that appends. Conditions: a valid content and change; pairs in memory, not too many.
  Walk: a content after a change, by the reference: a change of a record by its key. Conditions: a valid content and change; pairs in memory, not too many.
  Walk: a content after a change, by the reference: a change of a record by its key. Conditions: a valid content and change; pairs in memory, not too many.
-/
import Derived.Test.YtckpepfkfjdnhaaGreatDoorQX
import Derived.Test.YtckpepfkfjdnhaaGreatDoorQJ2
import Derived.Lib.Walk
import Derived.Deep.RegionHeld3
namespace Go.Proofs.YtckpepfkfjdnhaaGreatDoor

section
open Go.RowKit Go.Sort
variable {z : Rest}

section
attribute [local go_sem ↓] loadDs_down loadCo_down storeCo_down loadCh_down storeCh_down
end
end

section
open Go.RowKit Go.Sort
variable {z : Rest}

section
attribute [local go_sem ↓] loadDs_down loadCo_down storeCo_down loadCh_down storeCh_down
end
end

section
open Go.RowKit Go.Sort
variable {z : Rest}

section
attribute [local go_sem ↓] loadDs_down loadCo_down storeCo_down loadCh_down storeCh_down
end
end

end Go.Proofs.YtckpepfkfjdnhaaGreatDoor

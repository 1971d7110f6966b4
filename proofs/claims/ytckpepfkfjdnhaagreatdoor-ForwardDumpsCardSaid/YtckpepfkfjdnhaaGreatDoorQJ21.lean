/-
  Walk: whether a change is valid, by the reference. No condition but the texts' lengths.
-/
import Derived.Test.YtckpepfkfjdnhaaGreatDoorQU
import Derived.BigQuiet
namespace Go.Proofs.YtckpepfkfjdnhaaGreatDoor
open Go.RowKit Go.Sort

end Go.Proofs.YtckpepfkfjdnhaaGreatDoor

/-
  Loads of a whole description and of a whole content, kept as one step. No condition.
-/
import Derived.Test.YthkpcalopmddpaaDoorS20
import Derived.Test.YthkpcalopmddpaaDoorS23
namespace Go.Proofs.YthkpcalopmddpaaDoor
open Go.RowKit Go.Sort

/-- A description, loaded whole. -/
def loadDs (p : Addr) : Sem Value := loadVar 28 p
theorem loadDs_down (p : Addr) : loadVar 28 p = loadDs p := rfl
theorem loadDs_at {w : World} {g : Nat} {cs : Array Value} {t : TypeId} {fr : Nat × Nat} (hg : w.heap[g]? = some (.cells cs t fr)) (hi : cs.size = 21) : (loadDs ⟨g, 0, none⟩).run Tryd.prog w = .ok (.agg cs) w :=
  run_loadVar_row (P := Tryd.prog) w g t 28 cs fr _ hg Tryd.underlying28 rfl (by rw [info_ds, hi])

end Go.Proofs.YthkpcalopmddpaaDoor

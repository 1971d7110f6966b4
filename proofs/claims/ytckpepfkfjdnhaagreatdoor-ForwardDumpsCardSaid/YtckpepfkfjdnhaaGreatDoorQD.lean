/-
  Walks: the description that the statement speaks of; the head of a data set.
  Walks: whether a description is valid, by the reference.
  Loads of a whole description and of a whole content, kept as one step. No condition.
  Walks: the reference's head; whether a number can be stored.
-/
import Derived.Test.YtckpepfkfjdnhaaGreatDoorQB
namespace Go.Proofs.YtckpepfkfjdnhaaGreatDoor

section
open Go.RowKit Go.Sort
attribute [local go_sem] ByteArray.mk_append_mk strOfNums_size ext_drop ext_take

/-- The other fields of a description. -/
structure Rest where
 id : Int
 kat : Int
 klen : Int
 ivl : Int
 area : Int
 fivl : Int
 fare : Int
 base : Int
 aat : Int
 alen : Int
 uniq : Bool
 cls : Int
 vol : By
 own : By
 cre : Int
 exp : Int
 arch : Bool
deriving DecidableEq
/-- A description. -/
abbrev dsv (z : Rest) (org fmt len blk : Int) : Array Value :=
 #[.int .i64 z.id, .int .i64 org, .int .i64 fmt, .int .i64 len, .int .i64 blk, .int .i64 z.kat, .int .i64 z.klen, .int .i64 z.ivl, .int .i64 z.area, .int .i64 z.fivl, .int .i64 z.fare, .int .i64 z.base, .int .i64 z.aat, .int .i64 z.alen,
   .bool z.uniq, .int .i64 z.cls, .string ⟨z.vol.toArray⟩, .string ⟨z.own.toArray⟩, .int .i64 z.cre, .int .i64 z.exp, .bool z.arch]
theorem info_ds : (Tryz.prog.info? 23).map (·.size) = some 21 := by kernel_rfl
theorem two_new (w : World) (s z : Array Value) (t1 t2 : TypeId) : ((w.alloc (.cells s t1)).alloc (.cells z t2)).heap[w.heap.size + 1]? = some (.cells z t2 (0, 0)) := heap_alloc2_new _ _ _
theorem two_below (w : World) (s z : Array Value) (t1 t2 : TypeId) : Below w.heap.size w ((w.alloc (.cells s t1)).alloc (.cells z t2)) := (((Below.refl _ _).alloc (by simp) _).alloc (by simp) _)
theorem Below.setRow {B g : Nat} {a w : World} (h : Below B a w) (hg : B ≤ g) (cs : Array Value) : Below B a (w.setRow g cs) :=
 h.trans ⟨rfl, rfl, rfl, by simp, fun k hk => setRow_other w g k _ (by omega)⟩
end

section
open Go.RowKit Go.Sort
variable {z : Rest}

def dsV (org fmt len blk : Int) : Bool :=
 if org = 0 then (if fmt = 0 then fixV len blk else if fmt = 1 then varV len blk else if fmt = 2 then spnV len blk && decide (32 ≤ blk) else false) else false
theorem box_below (w : World) (s : Array Value) (t : TypeId) : Below w.heap.size w (w.alloc (.cells s t)) := (Below.refl _ _).alloc (Nat.le_refl _) _

end

section
open Go.RowKit Go.Sort

/-- A description, loaded whole. -/
def loadDs (p : Addr) : Sem Value := loadVar 23 p
theorem loadDs_down (p : Addr) : loadVar 23 p = loadDs p := rfl
theorem loadDs_at {w : World} {g : Nat} {cs : Array Value} {t : TypeId} {fr : Nat × Nat} (hg : w.heap[g]? = some (.cells cs t fr)) (hi : cs.size = 21) : (loadDs ⟨g, 0, none⟩).run Tryz.prog w = .ok (.agg cs) w :=
 run_loadVar_row (P := Tryz.prog) w g t 23 cs fr _ hg Tryz.underlying23 rfl (by rw [info_ds, hi])
end

section
open Go.RowKit Go.Sort
attribute [local go_sem] ByteArray.mk_append_mk strOfNums_size ext_drop ext_take

theorem swrite_info : (Tryz.prog.info? 151).map (·.size) = some 2 := by kernel_rfl
theorem ret_sw {fn : Func} {R : Ending → World → Prop} {a : Act} {w : World} {p : Tmp} {rb : Nat} {cs : Array Value} (hf : fn.results = #[.cell p 151]) (hp : a.tmps.getD p undef = .pointer (some ⟨rb, 0, none⟩)) (hd : a.defers = [])
   (hi : cs.size = 2) (hg : w.heap[rb]? = some (.cells cs 151 (0, 0))) (hR : R (.returned (.agg cs)) w) : bodyPost Tryz.prog fn R .ret a w :=
 bodyPost_ret (results_cell_row hf _ _ rb 151 _ (0, 0) _ hp hg Tryz.underlying151 rfl (by rw [swrite_info, hi])) hd hR
/-- The zero write. -/
abbrev swz : Array Value := #[.int .i64 0, .string ⟨#[]⟩]
end

end Go.Proofs.YtckpepfkfjdnhaaGreatDoor

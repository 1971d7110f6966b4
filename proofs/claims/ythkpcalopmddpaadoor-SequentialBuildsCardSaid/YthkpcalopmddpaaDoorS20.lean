/-
  Walks: the description that the statement speaks of; the head of a data set.
-/
import Derived.Test.YthkpcalopmddpaaDoorS1
namespace Go.Proofs.YthkpcalopmddpaaDoor
open Go.RowKit Go.Sort
attribute [local go_sem] ByteArray.mk_append_mk strOfNums_size ext_drop ext_take

/-- A description. -/
abbrev dsv (org fmt len blk : Int) : Array Value :=
  #[.int .i64 1, .int .i64 org, .int .i64 fmt, .int .i64 len, .int .i64 blk, .int .i64 0, .int .i64 0, .int .i64 0, .int .i64 0, .int .i64 0, .int .i64 0, .int .i64 0, .int .i64 0, .int .i64 0,
    .bool false, .int .i64 0, .string ⟨#[]⟩, .string ⟨#[]⟩, .int .i64 0, .int .i64 0, .bool false]
theorem info_ds : (Tryd.prog.info? 28).map (·.size) = some 21 := by kernel_rfl
theorem ret_ds {fn : Func} {R : Ending → World → Prop} {a : Act} {w : World} {p : Tmp} {rb : Nat} {cs : Array Value} (hf : fn.results = #[.cell p 28]) (hp : a.tmps.getD p undef = .pointer (some ⟨rb, 0, none⟩)) (hd : a.defers = [])
    (hi : cs.size = 21) (hg : w.heap[rb]? = some (.cells cs 28 (0, 0))) (hR : R (.returned (.agg cs)) w) : bodyPost Tryd.prog fn R .ret a w :=
  bodyPost_ret (results_cell_row hf _ _ rb 28 _ (0, 0) _ hp hg Tryd.underlying28 rfl (by rw [info_ds, hi])) hd hR
theorem two_new (w : World) (s z : Array Value) (t1 t2 : TypeId) : ((w.alloc (.cells s t1)).alloc (.cells z t2)).heap[w.heap.size + 1]? = some (.cells z t2 (0, 0)) := heap_alloc2_new _ _ _
theorem two_below (w : World) (s z : Array Value) (t1 t2 : TypeId) : Below w.heap.size w ((w.alloc (.cells s t1)).alloc (.cells z t2)) := (((Below.refl _ _).alloc (by simp) _).alloc (by simp) _)
/-- The zero description. -/
abbrev dsz : Array Value :=
  #[.int .i64 0, .int .i64 0, .int .i64 0, .int .i64 0, .int .i64 0, .int .i64 0, .int .i64 0, .int .i64 0, .int .i64 0, .int .i64 0, .int .i64 0, .int .i64 0, .int .i64 0, .int .i64 0,
    .bool false, .int .i64 0, .string ⟨#[]⟩, .string ⟨#[]⟩, .int .i64 0, .int .i64 0, .bool false]
theorem Below.setRow {B g : Nat} {a w : World} (h : Below B a w) (hg : B ≤ g) (cs : Array Value) : Below B a (w.setRow g cs) :=
  h.trans ⟨rfl, rfl, rfl, by simp, fun k hk => setRow_other w g k _ (by omega)⟩

set_option maxRecDepth 100000 in
set_option maxHeartbeats 1000000 in
theorem set_any (org fmt len blk : Int) (w : World) :
    Calls Tryd.prog 10 #[.agg #[.int .i64 org, .int .i64 fmt, .int .i64 len, .int .i64 blk]] w fun e w' => e = .returned (.agg (dsv org fmt len blk)) ∧ Below w.heap.size w w' := by
  have hz := two_new w #[.int .i64 org, .int .i64 fmt, .int .i64 len, .int .i64 blk] dsz 23 28
  have hb := two_below w #[.int .i64 org, .int .i64 fmt, .int .i64 len, .int .i64 blk] dsz 23 28
  have hsz : (dsv org fmt len blk).size = 21 := rfl
  have h1 : (dsv org fmt len blk).all (·.oneCell') = true := by simp [dsv, Value.oneCell']
  have HS := Lib.hid hsz
  have H1 := Lib.hid h1
  have HZ := Lib.hid hz
  have HB := Lib.hid hb
  clear hz hb hsz h1
  go_enter Tryd.func10, Tryd.ntmps10
  go_wp2_with (refine wpList_store_rowTo rfl _ _ _ rfl rfl (w.heap.size + 1) (dsv org fmt len blk) rfl rfl 28 dsz HZ.out (by rw [info_ds, HS.out]) (by rw [HS.out]; rfl) H1.out ?_)
  refine ret_ds rfl rfl rfl HS.out (setRow_heap _ _ _ _ _ _ HZ.out) ⟨rfl, Below.setRow HB.out (by omega) _⟩

end Go.Proofs.YthkpcalopmddpaaDoor

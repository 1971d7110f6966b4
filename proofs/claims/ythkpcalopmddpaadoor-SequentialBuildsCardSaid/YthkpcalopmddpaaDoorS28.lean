/-
  Walks: whether a description is valid, by the program. No condition.
-/
import Derived.Test.YthkpcalopmddpaaDoorS21
import Derived.Test.YthkpcalopmddpaaDoorS23
namespace Go.Proofs.YthkpcalopmddpaaDoor
open Go.RowKit Go.Sort

/-- Behind the store of the format: what lies in the two rows. -/
theorem fmt_rows {w w2 : World} {cs fs : Array Value} (hb2 : Below (w.alloc (.cells cs 28)).heap.size (w.alloc (.cells cs 28)) w2) :
    ∃ W, W = (w2.alloc (.cells fmz 76)).setRow w2.heap.size fs ∧ W.heap[w.heap.size]? = some (.cells cs 28 (0, 0)) ∧ W.heap[w2.heap.size]? = some (.cells fs 76 (0, 0)) ∧ Below w.heap.size w W := by
  have HB := box_below w cs 28
  have HZ := heap_alloc_new w (.cells cs 28)
  have hb3 : Below w.heap.size w w2 := HB.trans (hb2.mono HB.size)
  have hZ2 := (hb2.block w.heap.size (by simp)).trans HZ
  have hlt2 := lt_of_block hZ2
  refine ⟨_, rfl, (setRow_other _ w2.heap.size w.heap.size _ (by omega)).trans ((halloc w2 _ hlt2).trans hZ2), setRow_heap _ _ _ _ _ _ (heap_alloc_new _ _), Below.setRow (hb3.alloc hb3.size _) hb3.size _⟩

set_option maxRecDepth 100000 in
set_option maxHeartbeats 1000000 in
theorem valid2_any (len blk : Int) (w : World) : Calls Tryd.prog 15 #[.agg (dsv 0 2 len blk)] w fun e w' => e = .returned (.bool (spnV len blk && decide (32 ≤ blk))) ∧ Below w.heap.size w w' := by
  obtain ⟨q, hq⟩ : ∃ q, spnV len blk = q := ⟨_, rfl⟩
  rw [hq]
  have HV := Lib.hid (fun W => spn_valid len blk W)
  rw [hq] at HV
  clear hq
  have HF := Lib.hid (fun W => format2_any 0 2 len blk W (by decide) (by decide))
  have HZ := Lib.hid (heap_alloc_new w (.cells (dsv 0 2 len blk) 28))
  go_enter Tryd.func15, Tryd.ntmps15
  go_wp2_with (refine wpList_load_row rfl _ _ rfl w.heap.size rfl 28 (dsv 0 2 len blk) (0, 0) _ HZ.out Tryd.underlying28 rfl (by rw [info_ds]; rfl) ?_)
  refine (HF.out _).mono ?_
  rintro e w2 ⟨rfl, hb2⟩
  have H1 := Lib.hid (fm_one (fnv 72) (fnv 73) (fnv 74) (fnv 71) 32 rfl rfl rfl rfl)
  go_wp2_with (
    refine wpList_store_rowTo rfl _ _ _ rfl rfl w2.heap.size #[fnv 72, fnv 73, fnv 74, .int .i64 32, fnv 71] rfl rfl 76 fmz (heap_alloc_new _ _) (by rw [info_fmt]; rfl) rfl H1.out ?_
    obtain ⟨W, hW, r1, r2, hb3⟩ := fmt_rows (fs := #[fnv 72, fnv 73, fnv 74, .int .i64 32, fnv 71]) hb2
    rw [← hW]
    have c1 := cell_at (i := 1) (v := .int .i64 0) r1 rfl
    have c2 := cell_at (i := 2) (v := .int .i64 2) r1 rfl
    have c3 := cell_at (i := 3) (v := .int .i64 len) r1 rfl
    have c4 := cell_at (i := 4) (v := .int .i64 blk) r1 rfl
    have c5 := cell_at (i := 0) (v := fnv 72) r2 rfl
    have c6 := cell_at (i := 3) (v := .int .i64 32) r2 rfl
    have HB3 := Lib.hid hb3
    clear hb2 hb3 r1 r2 hW HZ HF H1)
  refine (HV.out _).mono ?_
  rintro e w4 ⟨rfl, rfl⟩
  cases q
  · go_wp2
    go_ret
    exact ⟨rfl, HB3.out⟩
  · go_wp2
    go_ret
    exact ⟨rfl, HB3.out⟩

set_option maxRecDepth 100000 in
set_option maxHeartbeats 1000000 in
theorem valid1_any (len blk : Int) (w : World) : Calls Tryd.prog 15 #[.agg (dsv 0 1 len blk)] w fun e w' => e = .returned (.bool (varV len blk && decide (0 ≤ blk))) ∧ Below w.heap.size w w' := by
  obtain ⟨q, hq⟩ : ∃ q, varV len blk = q := ⟨_, rfl⟩
  rw [hq]
  have HV := Lib.hid (fun W => var_valid len blk W)
  rw [hq] at HV
  clear hq
  have HF := Lib.hid (fun W => format1_any 0 len blk W)
  have HZ := Lib.hid (heap_alloc_new w (.cells (dsv 0 1 len blk) 28))
  go_enter Tryd.func15, Tryd.ntmps15
  go_wp2_with (refine wpList_load_row rfl _ _ rfl w.heap.size rfl 28 (dsv 0 1 len blk) (0, 0) _ HZ.out Tryd.underlying28 rfl (by rw [info_ds]; rfl) ?_)
  refine (HF.out _).mono ?_
  rintro e w2 ⟨g, rfl, hb2⟩
  have H1 := Lib.hid (fm_one (fnv 68) (fnv 69) (.func (.func 86) #[] #[.pointer (some ⟨g, 0, none⟩)]) (fnv 71) 0 rfl rfl rfl rfl)
  go_wp2_with (
    refine wpList_store_rowTo rfl _ _ _ rfl rfl w2.heap.size #[fnv 68, fnv 69, .func (.func 86) #[] #[.pointer (some ⟨g, 0, none⟩)], .int .i64 0, fnv 71] rfl rfl 76 fmz (heap_alloc_new _ _) (by rw [info_fmt]; rfl) rfl H1.out ?_
    obtain ⟨W, hW, r1, r2, hb3⟩ := fmt_rows (fs := #[fnv 68, fnv 69, .func (.func 86) #[] #[.pointer (some ⟨g, 0, none⟩)], .int .i64 0, fnv 71]) hb2
    rw [← hW]
    have c1 := cell_at (i := 1) (v := .int .i64 0) r1 rfl
    have c2 := cell_at (i := 2) (v := .int .i64 1) r1 rfl
    have c3 := cell_at (i := 3) (v := .int .i64 len) r1 rfl
    have c4 := cell_at (i := 4) (v := .int .i64 blk) r1 rfl
    have c5 := cell_at (i := 0) (v := fnv 68) r2 rfl
    have c6 := cell_at (i := 3) (v := .int .i64 0) r2 rfl
    have HB3 := Lib.hid hb3
    clear hb2 hb3 r1 r2 hW HZ HF H1)
  refine (HV.out _).mono ?_
  rintro e w4 ⟨rfl, rfl⟩
  cases q
  · go_wp2
    go_ret
    exact ⟨rfl, HB3.out⟩
  · go_wp2
    go_ret
    exact ⟨rfl, HB3.out⟩

set_option maxRecDepth 100000 in
set_option maxHeartbeats 1000000 in
theorem valid0_any (len blk : Int) (w : World) : Calls Tryd.prog 15 #[.agg (dsv 0 0 len blk)] w fun e w' => e = .returned (.bool (fixV len blk && decide (0 ≤ blk))) ∧ Below w.heap.size w w' := by
  obtain ⟨q, hq⟩ : ∃ q, fixV len blk = q := ⟨_, rfl⟩
  rw [hq]
  have HV := Lib.hid (fun W => fix_valid len blk W)
  rw [hq] at HV
  clear hq
  have HF := Lib.hid (fun W => format0_any 0 len blk W)
  have HZ := Lib.hid (heap_alloc_new w (.cells (dsv 0 0 len blk) 28))
  go_enter Tryd.func15, Tryd.ntmps15
  go_wp2_with (refine wpList_load_row rfl _ _ rfl w.heap.size rfl 28 (dsv 0 0 len blk) (0, 0) _ HZ.out Tryd.underlying28 rfl (by rw [info_ds]; rfl) ?_)
  refine (HF.out _).mono ?_
  rintro e w2 ⟨g, rfl, hb2⟩
  have H1 := Lib.hid (fm_one (fnv 63) (fnv 64) (.func (.func 86) #[] #[.pointer (some ⟨g, 0, none⟩)]) (fnv 67) 0 rfl rfl rfl rfl)
  go_wp2_with (
    refine wpList_store_rowTo rfl _ _ _ rfl rfl w2.heap.size #[fnv 63, fnv 64, .func (.func 86) #[] #[.pointer (some ⟨g, 0, none⟩)], .int .i64 0, fnv 67] rfl rfl 76 fmz (heap_alloc_new _ _) (by rw [info_fmt]; rfl) rfl H1.out ?_
    obtain ⟨W, hW, r1, r2, hb3⟩ := fmt_rows (fs := #[fnv 63, fnv 64, .func (.func 86) #[] #[.pointer (some ⟨g, 0, none⟩)], .int .i64 0, fnv 67]) hb2
    rw [← hW]
    have c1 := cell_at (i := 1) (v := .int .i64 0) r1 rfl
    have c2 := cell_at (i := 2) (v := .int .i64 0) r1 rfl
    have c3 := cell_at (i := 3) (v := .int .i64 len) r1 rfl
    have c4 := cell_at (i := 4) (v := .int .i64 blk) r1 rfl
    have c5 := cell_at (i := 0) (v := fnv 63) r2 rfl
    have c6 := cell_at (i := 3) (v := .int .i64 0) r2 rfl
    have HB3 := Lib.hid hb3
    clear hb2 hb3 r1 r2 hW HZ HF H1)
  refine (HV.out _).mono ?_
  rintro e w4 ⟨rfl, rfl⟩
  cases q
  · go_wp2
    go_ret
    exact ⟨rfl, HB3.out⟩
  · go_wp2
    go_ret
    exact ⟨rfl, HB3.out⟩

end Go.Proofs.YthkpcalopmddpaaDoor

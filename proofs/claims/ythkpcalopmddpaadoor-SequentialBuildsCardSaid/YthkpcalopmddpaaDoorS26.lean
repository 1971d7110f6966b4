/-
  Walks: whether records are allowed, by the program.
-/
import Derived.Test.YthkpcalopmddpaaDoorS10
import Derived.Test.YthkpcalopmddpaaDoorS16
import Derived.Test.YthkpcalopmddpaaDoorS23
import Derived.Test.YthkpcalopmddpaaDoorS25
namespace Go.Proofs.YthkpcalopmddpaaDoor
open Go.RowKit Go.Sort
theorem info_fn : (Tryd.prog.info? 73).map (·.size) = some 1 := by kernel_rfl
theorem setRow_cell0 (w : World) (t : TypeId) (o v : Value) : ((w.alloc (.cells #[o] t)).setRow w.heap.size #[v]).heap[w.heap.size]? = some (.cells #[v] t (0, 0)) :=
  setRow_heap _ _ _ _ _ _ (heap_alloc_new w (.cells #[o] t))

set_option maxRecDepth 100000 in
set_option maxHeartbeats 1000000 in
theorem allowed2_any (org fmt len blk : Int) (h0 : ¬ fmt = 0) (h1 : ¬ fmt = 1) (w : World) (B : Nat) (a : Option Addr) (cap : Nat) (l : List By) (h : Strs w B a l) (hB : B ≤ w.heap.size) (hl : l.length ≤ 1000000) :
    Calls Tryd.prog 32 #[.agg (dsv org fmt len blk), .slice a l.length cap] w fun e w' => e = .returned (.bool (!(l.any fun r => !(decide ((r.length : Int) ≤ len))))) ∧ Below w.heap.size w w' := by
  obtain ⟨q, hq⟩ : ∃ q, (l.any fun r => !(decide ((r.length : Int) ≤ len))) = q := ⟨_, rfl⟩
  rw [hq]
  have HQ := Lib.hid hq
  clear hq
  have hmf : ∀ (fn : Fn) (first cap : Array Value) (w : World), (Instr.makeFunc fn first cap).run Tryd.prog w = .ok (.func fn first cap) w := fun _ _ _ _ => rfl
  have hfd : ∀ W : World, (Instr.field 76 (.agg #[fnv 72, fnv 73, fnv 74, .int .i64 32, fnv 71]) 4).run Tryd.prog W = .ok (fnv 71) W := fun _ => by kernel_rfl
  have HF := Lib.hid (fun W => format2_any org fmt len blk W h0 h1)
  have HB := Lib.hid (box_below w (dsv org fmt len blk) 28)
  have HZ := Lib.hid (heap_alloc_new w (.cells (dsv org fmt len blk) 28))
  go_enter Tryd.func32, Tryd.ntmps32
  go_wp2_with (refine wpList_load_row rfl _ _ rfl w.heap.size rfl 28 (dsv org fmt len blk) (0, 0) _ HZ.out Tryd.underlying28 rfl (by rw [info_ds]; rfl) ?_)
  refine (HF.out _).mono ?_
  rintro e w2 ⟨rfl, hb2⟩
  go_wp2_with (refine wpList_store_oneTo rfl _ _ _ rfl rfl w2.heap.size (fnv 71) rfl rfl rfl _ .nilFunc (heap_alloc_new _ _) info_fn ?_)
  have hb3 : Below w.heap.size w w2 := HB.out.trans (hb2.mono HB.out.size)
  have hZ2 := (hb2.block w.heap.size (by simp)).trans HZ.out
  have hlt2 := lt_of_block hZ2
  have hb4 := Below.setRow (hb3.alloc hb3.size (.cells #[.nilFunc] 73)) hb3.size #[fnv 71]
  have hc1 := cell_at (i := 0) (setRow_cell0 w2 73 .nilFunc (fnv 71)) rfl
  have hZ3 : ((w2.alloc (.cells #[.nilFunc] 73)).setRow w2.heap.size #[fnv 71]).heap[w.heap.size]? = _ := (setRow_other _ w2.heap.size w.heap.size _ (by omega)).trans ((halloc w2 _ hlt2).trans hZ2)
  have hc2 := cell_at (i := 3) (v := .int .i64 len) hZ3 rfl
  have HS := Lib.hid (h.below (hb4.mono hB))
  have HB4 := Lib.hid hb4
  have HC := Lib.hid (fun r => atclos_any r w2.heap.size w.heap.size len _ hc1 hc2)
  clear hb2 hb3 hb4 hc1 hc2 hZ2 hZ3 hlt2
  refine (containsA_any _ _ (fun r => !(decide ((r.length : Int) ≤ len))) _ B a cap l HS.out hl (fun r _ => HC.out r)).mono ?_
  rintro e w4 ⟨rfl, rfl⟩
  rw [HQ.out]
  go_wp2
  go_ret
  exact ⟨rfl, HB4.out⟩

set_option maxRecDepth 100000 in
set_option maxHeartbeats 1000000 in
theorem allowed1_any (org len blk : Int) (w : World) (B : Nat) (a : Option Addr) (cap : Nat) (l : List By) (h : Strs w B a l) (hB : B ≤ w.heap.size) (hl : l.length ≤ 1000000) :
    Calls Tryd.prog 32 #[.agg (dsv org 1 len blk), .slice a l.length cap] w fun e w' => e = .returned (.bool (!(l.any fun r => !(decide ((r.length : Int) ≤ len))))) ∧ Below w.heap.size w w' := by
  obtain ⟨q, hq⟩ : ∃ q, (l.any fun r => !(decide ((r.length : Int) ≤ len))) = q := ⟨_, rfl⟩
  rw [hq]
  have HQ := Lib.hid hq
  clear hq
  have hmf : ∀ (fn : Fn) (first cap : Array Value) (w : World), (Instr.makeFunc fn first cap).run Tryd.prog w = .ok (.func fn first cap) w := fun _ _ _ _ => rfl
  have hfd : ∀ g : Nat, ∀ W : World, (Instr.field 76 (.agg #[fnv 68, fnv 69, .func (.func 86) #[] #[.pointer (some ⟨g, 0, none⟩)], .int .i64 0, fnv 71]) 4).run Tryd.prog W = .ok (fnv 71) W := fun _ _ => by kernel_rfl
  have HF := Lib.hid (fun W => format1_any org len blk W)
  have HB := Lib.hid (box_below w (dsv org 1 len blk) 28)
  have HZ := Lib.hid (heap_alloc_new w (.cells (dsv org 1 len blk) 28))
  go_enter Tryd.func32, Tryd.ntmps32
  go_wp2_with (refine wpList_load_row rfl _ _ rfl w.heap.size rfl 28 (dsv org 1 len blk) (0, 0) _ HZ.out Tryd.underlying28 rfl (by rw [info_ds]; rfl) ?_)
  refine (HF.out _).mono ?_
  rintro e w2 ⟨g, rfl, hb2⟩
  go_wp2_with (refine wpList_store_oneTo rfl _ _ _ rfl rfl w2.heap.size (fnv 71) rfl rfl rfl _ .nilFunc (heap_alloc_new _ _) info_fn ?_)
  have hb3 : Below w.heap.size w w2 := HB.out.trans (hb2.mono HB.out.size)
  have hZ2 := (hb2.block w.heap.size (by simp)).trans HZ.out
  have hlt2 := lt_of_block hZ2
  have hb4 := Below.setRow (hb3.alloc hb3.size (.cells #[.nilFunc] 73)) hb3.size #[fnv 71]
  have hc1 := cell_at (i := 0) (setRow_cell0 w2 73 .nilFunc (fnv 71)) rfl
  have hZ3 : ((w2.alloc (.cells #[.nilFunc] 73)).setRow w2.heap.size #[fnv 71]).heap[w.heap.size]? = _ := (setRow_other _ w2.heap.size w.heap.size _ (by omega)).trans ((halloc w2 _ hlt2).trans hZ2)
  have hc2 := cell_at (i := 3) (v := .int .i64 len) hZ3 rfl
  have HS := Lib.hid (h.below (hb4.mono hB))
  have HB4 := Lib.hid hb4
  have HC := Lib.hid (fun r => atclos_any r w2.heap.size w.heap.size len _ hc1 hc2)
  clear hb2 hb3 hb4 hc1 hc2 hZ2 hZ3 hlt2
  refine (containsA_any _ _ (fun r => !(decide ((r.length : Int) ≤ len))) _ B a cap l HS.out hl (fun r _ => HC.out r)).mono ?_
  rintro e w4 ⟨rfl, rfl⟩
  rw [HQ.out]
  go_wp2
  go_ret
  exact ⟨rfl, HB4.out⟩

set_option maxRecDepth 100000 in
set_option maxHeartbeats 1000000 in
theorem allowed0_any (org len blk : Int) (w : World) (B : Nat) (a : Option Addr) (cap : Nat) (l : List By) (h : Strs w B a l) (hB : B ≤ w.heap.size) (hl : l.length ≤ 1000000) :
    Calls Tryd.prog 32 #[.agg (dsv org 0 len blk), .slice a l.length cap] w fun e w' => e = .returned (.bool (!(l.any fun r => !(decide ((r.length : Int) = len))))) ∧ Below w.heap.size w w' := by
  obtain ⟨q, hq⟩ : ∃ q, (l.any fun r => !(decide ((r.length : Int) = len))) = q := ⟨_, rfl⟩
  rw [hq]
  have HQ := Lib.hid hq
  clear hq
  have hmf : ∀ (fn : Fn) (first cap : Array Value) (w : World), (Instr.makeFunc fn first cap).run Tryd.prog w = .ok (.func fn first cap) w := fun _ _ _ _ => rfl
  have hfd : ∀ g : Nat, ∀ W : World, (Instr.field 76 (.agg #[fnv 63, fnv 64, .func (.func 86) #[] #[.pointer (some ⟨g, 0, none⟩)], .int .i64 0, fnv 67]) 4).run Tryd.prog W = .ok (fnv 67) W := fun _ _ => by kernel_rfl
  have HF := Lib.hid (fun W => format0_any org len blk W)
  have HB := Lib.hid (box_below w (dsv org 0 len blk) 28)
  have HZ := Lib.hid (heap_alloc_new w (.cells (dsv org 0 len blk) 28))
  go_enter Tryd.func32, Tryd.ntmps32
  go_wp2_with (refine wpList_load_row rfl _ _ rfl w.heap.size rfl 28 (dsv org 0 len blk) (0, 0) _ HZ.out Tryd.underlying28 rfl (by rw [info_ds]; rfl) ?_)
  refine (HF.out _).mono ?_
  rintro e w2 ⟨g, rfl, hb2⟩
  go_wp2_with (refine wpList_store_oneTo rfl _ _ _ rfl rfl w2.heap.size (fnv 67) rfl rfl rfl _ .nilFunc (heap_alloc_new _ _) info_fn ?_)
  have hb3 : Below w.heap.size w w2 := HB.out.trans (hb2.mono HB.out.size)
  have hZ2 := (hb2.block w.heap.size (by simp)).trans HZ.out
  have hlt2 := lt_of_block hZ2
  have hb4 := Below.setRow (hb3.alloc hb3.size (.cells #[.nilFunc] 73)) hb3.size #[fnv 67]
  have hc1 := cell_at (i := 0) (setRow_cell0 w2 73 .nilFunc (fnv 67)) rfl
  have hZ3 : ((w2.alloc (.cells #[.nilFunc] 73)).setRow w2.heap.size #[fnv 67]).heap[w.heap.size]? = _ := (setRow_other _ w2.heap.size w.heap.size _ (by omega)).trans ((halloc w2 _ hlt2).trans hZ2)
  have hc2 := cell_at (i := 3) (v := .int .i64 len) hZ3 rfl
  have HS := Lib.hid (h.below (hb4.mono hB))
  have HB4 := Lib.hid hb4
  have HC := Lib.hid (fun r => eqclos_any r w2.heap.size w.heap.size len _ hc1 hc2)
  clear hb2 hb3 hb4 hc1 hc2 hZ2 hZ3 hlt2
  refine (containsA_any _ _ (fun r => !(decide ((r.length : Int) = len))) _ B a cap l HS.out hl (fun r _ => HC.out r)).mono ?_
  rintro e w4 ⟨rfl, rfl⟩
  rw [HQ.out]
  go_wp2
  go_ret
  exact ⟨rfl, HB4.out⟩

end Go.Proofs.YthkpcalopmddpaaDoor

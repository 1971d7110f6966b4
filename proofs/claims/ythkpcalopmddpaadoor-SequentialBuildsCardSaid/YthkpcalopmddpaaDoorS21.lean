/-
  Walks: the format of a description, as the program has it.
-/
import Derived.Test.YthkpcalopmddpaaDoorS5
import Derived.Test.YthkpcalopmddpaaDoorS20
namespace Go.Proofs.YthkpcalopmddpaaDoor
open Go.RowKit Go.Sort

/-- A function's value. -/
abbrev fnv (n : Nat) : Value := .func (.func n) #[] #[]
theorem info_fmt : (Tryd.prog.info? 76).map (·.size) = some 5 := by kernel_rfl
theorem ret_fmt {fn : Func} {R : Ending → World → Prop} {a : Act} {w : World} {p : Tmp} {rb : Nat} {cs : Array Value} (hf : fn.results = #[.cell p 76]) (hp : a.tmps.getD p undef = .pointer (some ⟨rb, 0, none⟩)) (hd : a.defers = [])
    (hi : cs.size = 5) (hg : w.heap[rb]? = some (.cells cs 76 (0, 0))) (hR : R (.returned (.agg cs)) w) : bodyPost Tryd.prog fn R .ret a w :=
  bodyPost_ret (results_cell_row hf _ _ rb 76 _ (0, 0) _ hp hg Tryd.underlying76 rfl (by rw [info_fmt, hi])) hd hR

set_option maxRecDepth 100000 in
set_option maxHeartbeats 400000 in
theorem each_any (n : Nat) (w : World) :
    Calls Tryd.prog 65 #[fnv n] w fun e w' => e = .returned (.func (.func 86) #[] #[.pointer (some ⟨w.heap.size, 0, none⟩)]) ∧ Below w.heap.size w w' := by
  have hmf : ∀ (fn : Fn) (first cap : Array Value) (w : World), (Instr.makeFunc fn first cap).run Tryd.prog w = .ok (.func fn first cap) w := fun _ _ _ _ => rfl
  go_enter Tryd.func65, Tryd.ntmps65
  go_wp2
  go_ret
  exact ⟨rfl, (Below.refl _ _).alloc (by simp) _⟩

abbrev fmz : Array Value := #[.nilFunc, .nilFunc, .nilFunc, .int .i64 0, .nilFunc]
theorem fm_one (a b c e : Value) (k : Int) (ha : a.oneCell' = true) (hb : b.oneCell' = true) (hc : c.oneCell' = true) (he : e.oneCell' = true) : (#[a, b, c, .int .i64 k, e] : Array Value).all (·.oneCell') = true := by
  have hk : (Value.int .i64 k).oneCell' = true := rfl
  simp [ha, hb, hc, he, hk]

set_option maxRecDepth 100000 in
set_option maxHeartbeats 1000000 in
theorem format2_any (org fmt len blk : Int) (w : World) (h0 : ¬ fmt = 0) (h1 : ¬ fmt = 1) :
    Calls Tryd.prog 39 #[.agg (dsv org fmt len blk)] w fun e w' =>
      e = .returned (.agg #[fnv 72, fnv 73, fnv 74, .int .i64 32, fnv 71]) ∧ Below w.heap.size w w' := by
  have e0 : (fmt == 0) = false := by simp [h0]
  have e1 : (fmt == 1) = false := by simp [h1]
  have HZ := Lib.hid (two_new w (dsv org fmt len blk) fmz 28 76)
  have HB := Lib.hid (two_below w (dsv org fmt len blk) fmz 28 76)
  have H1 := Lib.hid (fm_one (fnv 72) (fnv 73) (fnv 74) (fnv 71) 32 rfl rfl rfl rfl)
  go_enter Tryd.func39, Tryd.ntmps39
  go_wp2_with (refine wpList_store_rowTo rfl _ _ _ rfl rfl (w.heap.size + 1) #[fnv 72, fnv 73, fnv 74, .int .i64 32, fnv 71] rfl rfl 76 fmz HZ.out (by rw [info_fmt]; rfl) rfl H1.out ?_)
  refine ret_fmt rfl rfl rfl rfl (setRow_heap _ _ _ _ _ _ HZ.out) ⟨rfl, Below.setRow HB.out (by omega) _⟩

set_option maxRecDepth 100000 in
set_option maxHeartbeats 1000000 in
theorem format0_any (org len blk : Int) (w : World) :
    Calls Tryd.prog 39 #[.agg (dsv org 0 len blk)] w fun e w' =>
      ∃ g, e = .returned (.agg #[fnv 63, fnv 64, .func (.func 86) #[] #[.pointer (some ⟨g, 0, none⟩)], .int .i64 0, fnv 67]) ∧ Below w.heap.size w w' := by
  have HZ := Lib.hid (two_new w (dsv org 0 len blk) fmz 28 76)
  have HB := Lib.hid (two_below w (dsv org 0 len blk) fmz 28 76)
  go_enter Tryd.func39, Tryd.ntmps39
  go_wp2_with fail
  refine (each_any _ _).mono ?_
  rintro e w2 ⟨rfl, hb2⟩
  generalize hg : ((w.alloc (.cells (dsv org 0 len blk) 28)).alloc (.cells fmz 76)).heap.size = G at hb2 ⊢
  have hG : w.heap.size + 1 < G := by rw [← hg]; simp
  have HZ2 := Lib.hid ((hb2.block (w.heap.size + 1) hG).trans HZ.out)
  have HB2 := Lib.hid (HB.out.trans (hb2.mono (by omega)))
  have H1 := Lib.hid (fm_one (fnv 63) (fnv 64) (.func (.func 86) #[] #[.pointer (some ⟨G, 0, none⟩)]) (fnv 67) 0 rfl rfl rfl rfl)
  clear hb2 hg hG
  go_wp2_with (refine wpList_store_rowTo rfl _ _ _ rfl rfl (w.heap.size + 1) #[fnv 63, fnv 64, .func (.func 86) #[] #[.pointer (some ⟨G, 0, none⟩)], .int .i64 0, fnv 67] rfl rfl 76 fmz HZ2.out (by rw [info_fmt]; rfl) rfl H1.out ?_)
  refine ret_fmt (cs := #[fnv 63, fnv 64, .func (.func 86) #[] #[.pointer (some ⟨G, 0, none⟩)], .int .i64 0, fnv 67]) rfl rfl rfl rfl (setRow_heap _ _ _ _ _ _ HZ2.out) ⟨_, rfl, Below.setRow HB2.out (by omega) _⟩

set_option maxRecDepth 100000 in
set_option maxHeartbeats 1000000 in
theorem format1_any (org len blk : Int) (w : World) :
    Calls Tryd.prog 39 #[.agg (dsv org 1 len blk)] w fun e w' =>
      ∃ g, e = .returned (.agg #[fnv 68, fnv 69, .func (.func 86) #[] #[.pointer (some ⟨g, 0, none⟩)], .int .i64 0, fnv 71]) ∧ Below w.heap.size w w' := by
  have HZ := Lib.hid (two_new w (dsv org 1 len blk) fmz 28 76)
  have HB := Lib.hid (two_below w (dsv org 1 len blk) fmz 28 76)
  go_enter Tryd.func39, Tryd.ntmps39
  go_wp2_with fail
  refine (each_any _ _).mono ?_
  rintro e w2 ⟨rfl, hb2⟩
  generalize hg : ((w.alloc (.cells (dsv org 1 len blk) 28)).alloc (.cells fmz 76)).heap.size = G at hb2 ⊢
  have hG : w.heap.size + 1 < G := by rw [← hg]; simp
  have HZ2 := Lib.hid ((hb2.block (w.heap.size + 1) hG).trans HZ.out)
  have HB2 := Lib.hid (HB.out.trans (hb2.mono (by omega)))
  have H1 := Lib.hid (fm_one (fnv 68) (fnv 69) (.func (.func 86) #[] #[.pointer (some ⟨G, 0, none⟩)]) (fnv 71) 0 rfl rfl rfl rfl)
  clear hb2 hg hG
  go_wp2_with (refine wpList_store_rowTo rfl _ _ _ rfl rfl (w.heap.size + 1) #[fnv 68, fnv 69, .func (.func 86) #[] #[.pointer (some ⟨G, 0, none⟩)], .int .i64 0, fnv 71] rfl rfl 76 fmz HZ2.out (by rw [info_fmt]; rfl) rfl H1.out ?_)
  refine ret_fmt (cs := #[fnv 68, fnv 69, .func (.func 86) #[] #[.pointer (some ⟨G, 0, none⟩)], .int .i64 0, fnv 71]) rfl rfl rfl rfl (setRow_heap _ _ _ _ _ _ HZ2.out) ⟨_, rfl, Below.setRow HB2.out (by omega) _⟩

end Go.Proofs.YthkpcalopmddpaaDoor

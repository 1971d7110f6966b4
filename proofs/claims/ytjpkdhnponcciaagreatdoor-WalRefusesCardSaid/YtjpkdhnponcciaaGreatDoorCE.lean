/-
  Walks: the beginning of each call of a log, case by case. Condition: the log and its copies lie in memory.
-/
import Derived.Test.YtjpkdhnponcciaaGreatDoorCD
namespace Go.Proofs.YtjpkdhnponcciaaGreatDoor
open Go.RowKit Go.Sort

theorem LgAt.drewN {w : World} {lb : Nat} {ka kb : Bk} {A B : Cp} (h : LgAt w lb ka kb A B) (n : Nat) : LgAt (w.drewN n) lb ka kb A B := h.below (below_drewN (Below.refl _ _) n)
/-- What begin has laid: its result, the heads of both copies. -/
structure BgSt (w : World) (lb : Nat) (ka kb : Bk) (A B : Cp) (X Y : Nat) (x y : Hw) (W : World) : Prop where
  bel : Below w.heap.size w W
  lg : LgAt W lb ka kb A B
  rr : W.heap[w.heap.size]? = some (.cells hdZ 105 (0, 0))
  xx : W.heap[X]? = some (.cells x.cs 105 (0, 0))
  yy : W.heap[Y]? = some (.cells y.cs 105 (0, 0))
theorem BgSt.below {w : World} {lb : Nat} {ka kb : Bk} {A B : Cp} {X Y : Nat} {x y : Hw} {W W' : World} (h : BgSt w lb ka kb A B X Y x y W) (hb : Below W.heap.size W W') : BgSt w lb ka kb A B X Y x y W' :=
  ⟨h.bel.trans (hb.mono h.bel.size), h.lg.below hb, heap_below hb (lt_of_block h.rr) h.rr, heap_below hb (lt_of_block h.xx) h.xx, heap_below hb (lt_of_block h.yy) h.yy⟩
section
attribute [local go_sem ↓] loadHd_down storeHd_down
set_option maxRecDepth 100000 in
set_option maxHeartbeats 4000000 in
theorem begin1 (w : World) (lb : Nat) (ka kb : Bk)  (hL : LgAt w lb ka kb (none) (none))  : Calls Tryz.prog 46 #[.pointer (some ⟨lb, 0, none⟩)] w fun e w' =>
    e = .returned (.tuple #[.agg (hwZ).cs, .int .i64 1]) ∧ LgAt w' lb ka kb (none) (none) ∧ Only (fS ka kb (none) (none)) w w' := by
  obtain ⟨w1, hw1⟩ : ∃ w1, w1 = w.alloc (.cells hdZ 105) := ⟨_, rfl⟩
  have hg1 : w1.heap[w.heap.size]? = some (.cells hdZ 105 (0, 0)) := by rw [hw1]; exact heap_alloc_new _ _
  have hb1 : Below w.heap.size w w1 := by rw [hw1]; exact box_below0 _ _ _
  have HW := Lib.hid hw1
  have HG1 := Lib.hid hg1
  have HB1 := Lib.hid hb1
  have HL1 := Lib.hid (hL.below hb1)
  have HL := Lib.hid hL
  clear hw1 hg1 hb1 hL
  have c0 : w1.cell? ⟨lb, 0, none⟩ = some (.nilIface) := cell_at HL1.out.row rfl
  have c1 : w1.cell? ⟨lb, 1, none⟩ = some (.nilIface) := cell_at HL1.out.row rfl
  have s1 := fun nq => storeHd_at (w := w1.drewN nq) (cs := hdZ) HG1.out rfl rfl (by simp [Value.oneCell'])
  go_enter Tryz.func46, Tryz.ntmps46
  go_upto_region 1 with fail
  rw [← HW.out]
  go_quiet (fail)
  go_wp2_with fail
  (try simp only [Exit.inBlock, Exit.then])
  have HBZ := fun nq => below_setRow (below_drewN HB1.out nq) (Nat.le_refl w.heap.size) hdZ
  refine ret2_hd (cs := hdZ) rfl rfl rfl rfl rfl (setRow_heap _ _ _ _ _ _ HG1.out) ?_
  exact ⟨rfl, HL.out.below (HBZ _), Only.of_below (HBZ _)⟩
set_option maxRecDepth 100000 in
set_option maxHeartbeats 4000000 in
theorem begin2 (w : World) (lb : Nat) (ka kb : Bk) (M : Mm) (hL : LgAt w lb ka kb (some M) (none))  (ha16 : 16 ≤ M.secs.length) (hda : hdC (some M) = none)  : Calls Tryz.prog 46 #[.pointer (some ⟨lb, 0, none⟩)] w fun e w' =>
    e = .returned (.tuple #[.agg (hwZ).cs, .int .i64 18]) ∧ LgAt w' lb ka kb (some M) (none) ∧ Only (fS ka kb (some M) (none)) w w' := by
  obtain ⟨w1, hw1⟩ : ∃ w1, w1 = w.alloc (.cells hdZ 105) := ⟨_, rfl⟩
  have hg1 : w1.heap[w.heap.size]? = some (.cells hdZ 105 (0, 0)) := by rw [hw1]; exact heap_alloc_new _ _
  have hb1 : Below w.heap.size w w1 := by rw [hw1]; exact box_below0 _ _ _
  have HW := Lib.hid hw1
  have HG1 := Lib.hid hg1
  have HB1 := Lib.hid hb1
  have HL1 := Lib.hid (hL.below hb1)
  have HL := Lib.hid hL
  clear hw1 hg1 hb1 hL
  have c0 : w1.cell? ⟨lb, 0, none⟩ = some (.iface 25 (memV ka.p)) := cell_at HL1.out.row rfl
  have c1 : w1.cell? ⟨lb, 1, none⟩ = some (.nilIface) := cell_at HL1.out.row rfl
  have HRA := Lib.hid (fun nq => show Calls Tryz.prog 48 #[.iface 25 (memV ka.p)] (w1.drewN nq) fun e w' => e = .returned (.tuple #[.agg hwZ.cs, .bool false]) ∧ Below (w1.drewN nq).heap.size (w1.drewN nq) w' by
    have h := readHead_w (w1.drewN nq) ka (some M) (HL1.out.drewN nq).a (fun M e => by cases e; omega)
    rw [hda] at h
    exact h)
  have HRB := Lib.hid (fun (W : World) (h0 : LgAt W lb ka kb (some M) (none)) => show Calls Tryz.prog 48 #[.nilIface] W fun e w' => e = .returned (.tuple #[.agg hwZ.cs, .bool false]) ∧ Below W.heap.size W w' by
    have h := readHead_w W kb (none) h0.b (fun M e => by cases e)
    rw [show hdC none = none from rfl] at h
    exact h)
  go_enter Tryz.func46, Tryz.ntmps46
  go_upto_region 1 with fail
  rw [← HW.out]
  go_quiet (fail)
  go_wp2_with fail
  refine (HRA.out _).mono ?_
  rintro e w2 ⟨rfl, hb2⟩
  have hb2 := (below_drewN (Below.refl w1.heap.size w1) _).trans hb2
  obtain ⟨w3, st3, hg3, hb3⟩ := put_hd w2 hwZ.cs rfl (by simp [Value.oneCell'])
  have HB3 := Lib.hid (hb2.trans (hb3.mono hb2.size))
  have HG3 := Lib.hid hg3
  have HXN := Lib.hid (Nat.lt_of_lt_of_le (lt_of_block HG1.out) hb2.size)
  clear c0 c1 hb2 hb3 hg3 HRA
  go_wp2_with fail
  clear st3
  refine (HRB.out w3 (HL1.out.below HB3.out)).mono ?_
  rintro e w4 ⟨rfl, hb4⟩
  obtain ⟨w5, st5, hg5, hb5⟩ := put_hd w4 hwZ.cs rfl (by simp [Value.oneCell'])
  have hb45 := hb4.trans (hb5.mono hb4.size)
  have HS5 := Lib.hid (show BgSt w lb ka kb (some M) (none) w2.heap.size w4.heap.size hwZ hwZ w5 from
    ⟨(HB1.out.trans (HB3.out.mono HB1.out.size)).trans (hb45.mono (HB1.out.trans (HB3.out.mono HB1.out.size)).size), (HL1.out.below HB3.out).below hb45,
      heap_below hb45 (Nat.lt_of_lt_of_le (lt_of_block HG1.out) HB3.out.size) (heap_below HB3.out (lt_of_block HG1.out) HG1.out), heap_below hb45 (lt_of_block HG3.out) HG3.out, hg5⟩)
  have l5x := loadHd_at HS5.out.xx rfl
  have l5y := loadHd_at HS5.out.yy rfl
  have HYN := Lib.hid (Nat.lt_of_lt_of_le (Nat.lt_of_lt_of_le (lt_of_block HG1.out) HB3.out.size) hb4.size)
  clear hb4 hb5 hg5 hb45 HRB HB3 HG3 HG1
  have s5 := storeHd_at (cs := hdZ) HS5.out.rr rfl rfl (by simp [Value.oneCell'])
  go_wp2_with fail
  (try simp only [Exit.inBlock, Exit.then])
  have HGZ := setRow_heap w5 w.heap.size hdZ (hdZ) 105 (0, 0) HS5.out.rr
  have HBZ := below_setRow (Below.refl w5.heap.size w5 |> fun _ => HS5.out.bel) (Nat.le_refl w.heap.size) (hdZ)
  refine ret2_hd (cs := hdZ) rfl rfl rfl rfl rfl HGZ ?_
  exact ⟨rfl, HL.out.below HBZ, Only.of_below HBZ⟩
set_option maxRecDepth 100000 in
set_option maxHeartbeats 4000000 in
theorem begin3 (w : World) (lb : Nat) (ka kb : Bk) (M : Mm) (x : Hw) (hL : LgAt w lb ka kb (some M) (none))  (ha16 : 16 ≤ M.secs.length) (hda : hdC (some M) = some x)  : Calls Tryz.prog 46 #[.pointer (some ⟨lb, 0, none⟩)] w fun e w' =>
    e = .returned (.tuple #[.agg (x).cs, .int .i64 0]) ∧ LgAt w' lb ka kb (some M) (none) ∧ Only (fS ka kb (some M) (none)) w w' := by
  obtain ⟨w1, hw1⟩ : ∃ w1, w1 = w.alloc (.cells hdZ 105) := ⟨_, rfl⟩
  have hg1 : w1.heap[w.heap.size]? = some (.cells hdZ 105 (0, 0)) := by rw [hw1]; exact heap_alloc_new _ _
  have hb1 : Below w.heap.size w w1 := by rw [hw1]; exact box_below0 _ _ _
  have HW := Lib.hid hw1
  have HG1 := Lib.hid hg1
  have HB1 := Lib.hid hb1
  have HL1 := Lib.hid (hL.below hb1)
  have HL := Lib.hid hL
  clear hw1 hg1 hb1 hL
  have c0 : w1.cell? ⟨lb, 0, none⟩ = some (.iface 25 (memV ka.p)) := cell_at HL1.out.row rfl
  have c1 : w1.cell? ⟨lb, 1, none⟩ = some (.nilIface) := cell_at HL1.out.row rfl
  have HRA := Lib.hid (fun nq => show Calls Tryz.prog 48 #[.iface 25 (memV ka.p)] (w1.drewN nq) fun e w' => e = .returned (.tuple #[.agg x.cs, .bool true]) ∧ Below (w1.drewN nq).heap.size (w1.drewN nq) w' by
    have h := readHead_w (w1.drewN nq) ka (some M) (HL1.out.drewN nq).a (fun M e => by cases e; omega)
    rw [hda] at h
    exact h)
  have HRB := Lib.hid (fun (W : World) (h0 : LgAt W lb ka kb (some M) (none)) => show Calls Tryz.prog 48 #[.nilIface] W fun e w' => e = .returned (.tuple #[.agg hwZ.cs, .bool false]) ∧ Below W.heap.size W w' by
    have h := readHead_w W kb (none) h0.b (fun M e => by cases e)
    rw [show hdC none = none from rfl] at h
    exact h)
  go_enter Tryz.func46, Tryz.ntmps46
  go_upto_region 1 with fail
  rw [← HW.out]
  go_quiet (fail)
  go_wp2_with fail
  refine (HRA.out _).mono ?_
  rintro e w2 ⟨rfl, hb2⟩
  have hb2 := (below_drewN (Below.refl w1.heap.size w1) _).trans hb2
  obtain ⟨w3, st3, hg3, hb3⟩ := put_hd w2 x.cs rfl (by simp [Value.oneCell'])
  have HB3 := Lib.hid (hb2.trans (hb3.mono hb2.size))
  have HG3 := Lib.hid hg3
  have HXN := Lib.hid (Nat.lt_of_lt_of_le (lt_of_block HG1.out) hb2.size)
  clear c0 c1 hb2 hb3 hg3 HRA
  go_wp2_with fail
  clear st3
  refine (HRB.out w3 (HL1.out.below HB3.out)).mono ?_
  rintro e w4 ⟨rfl, hb4⟩
  obtain ⟨w5, st5, hg5, hb5⟩ := put_hd w4 hwZ.cs rfl (by simp [Value.oneCell'])
  have hb45 := hb4.trans (hb5.mono hb4.size)
  have HS5 := Lib.hid (show BgSt w lb ka kb (some M) (none) w2.heap.size w4.heap.size x hwZ w5 from
    ⟨(HB1.out.trans (HB3.out.mono HB1.out.size)).trans (hb45.mono (HB1.out.trans (HB3.out.mono HB1.out.size)).size), (HL1.out.below HB3.out).below hb45,
      heap_below hb45 (Nat.lt_of_lt_of_le (lt_of_block HG1.out) HB3.out.size) (heap_below HB3.out (lt_of_block HG1.out) HG1.out), heap_below hb45 (lt_of_block HG3.out) HG3.out, hg5⟩)
  have l5x := loadHd_at HS5.out.xx rfl
  have l5y := loadHd_at HS5.out.yy rfl
  have HYN := Lib.hid (Nat.lt_of_lt_of_le (Nat.lt_of_lt_of_le (lt_of_block HG1.out) HB3.out.size) hb4.size)
  clear hb4 hb5 hg5 hb45 HRB HB3 HG3 HG1
  have s5 := storeHd_at (cs := x.cs) HS5.out.rr rfl rfl (by simp [Value.oneCell'])
  go_wp2_with fail
  (try simp only [Exit.inBlock, Exit.then])
  have HGZ := setRow_heap w5 w.heap.size hdZ (x.cs) 105 (0, 0) HS5.out.rr
  have HBZ := below_setRow (Below.refl w5.heap.size w5 |> fun _ => HS5.out.bel) (Nat.le_refl w.heap.size) (x.cs)
  refine ret2_hd (cs := x.cs) rfl rfl rfl rfl rfl HGZ ?_
  exact ⟨rfl, HL.out.below HBZ, Only.of_below HBZ⟩
set_option maxRecDepth 100000 in
set_option maxHeartbeats 4000000 in
theorem begin4 (w : World) (lb : Nat) (ka kb : Bk) (N : Mm) (hL : LgAt w lb ka kb (none) (some N))  (hb16 : 16 ≤ N.secs.length) (hdb : hdC (some N) = none)  : Calls Tryz.prog 46 #[.pointer (some ⟨lb, 0, none⟩)] w fun e w' =>
    e = .returned (.tuple #[.agg (hwZ).cs, .int .i64 18]) ∧ LgAt w' lb ka kb (none) (some N) ∧ Only (fS ka kb (none) (some N)) w w' := by
  obtain ⟨w1, hw1⟩ : ∃ w1, w1 = w.alloc (.cells hdZ 105) := ⟨_, rfl⟩
  have hg1 : w1.heap[w.heap.size]? = some (.cells hdZ 105 (0, 0)) := by rw [hw1]; exact heap_alloc_new _ _
  have hb1 : Below w.heap.size w w1 := by rw [hw1]; exact box_below0 _ _ _
  have HW := Lib.hid hw1
  have HG1 := Lib.hid hg1
  have HB1 := Lib.hid hb1
  have HL1 := Lib.hid (hL.below hb1)
  have HL := Lib.hid hL
  clear hw1 hg1 hb1 hL
  have c0 : w1.cell? ⟨lb, 0, none⟩ = some (.nilIface) := cell_at HL1.out.row rfl
  have c1 : w1.cell? ⟨lb, 1, none⟩ = some (.iface 25 (memV kb.p)) := cell_at HL1.out.row rfl
  have HRA := Lib.hid (fun nq => show Calls Tryz.prog 48 #[.nilIface] (w1.drewN nq) fun e w' => e = .returned (.tuple #[.agg hwZ.cs, .bool false]) ∧ Below (w1.drewN nq).heap.size (w1.drewN nq) w' by
    have h := readHead_w (w1.drewN nq) ka (none) (HL1.out.drewN nq).a (fun M e => by cases e)
    rw [show hdC none = none from rfl] at h
    exact h)
  have HRB := Lib.hid (fun (W : World) (h0 : LgAt W lb ka kb (none) (some N)) => show Calls Tryz.prog 48 #[.iface 25 (memV kb.p)] W fun e w' => e = .returned (.tuple #[.agg hwZ.cs, .bool false]) ∧ Below W.heap.size W w' by
    have h := readHead_w W kb (some N) h0.b (fun M e => by cases e; omega)
    rw [hdb] at h
    exact h)
  go_enter Tryz.func46, Tryz.ntmps46
  go_upto_region 1 with fail
  rw [← HW.out]
  go_quiet (fail)
  go_wp2_with fail
  refine (HRA.out _).mono ?_
  rintro e w2 ⟨rfl, hb2⟩
  have hb2 := (below_drewN (Below.refl w1.heap.size w1) _).trans hb2
  obtain ⟨w3, st3, hg3, hb3⟩ := put_hd w2 hwZ.cs rfl (by simp [Value.oneCell'])
  have HB3 := Lib.hid (hb2.trans (hb3.mono hb2.size))
  have HG3 := Lib.hid hg3
  have HXN := Lib.hid (Nat.lt_of_lt_of_le (lt_of_block HG1.out) hb2.size)
  clear c0 c1 hb2 hb3 hg3 HRA
  go_wp2_with fail
  clear st3
  refine (HRB.out w3 (HL1.out.below HB3.out)).mono ?_
  rintro e w4 ⟨rfl, hb4⟩
  obtain ⟨w5, st5, hg5, hb5⟩ := put_hd w4 hwZ.cs rfl (by simp [Value.oneCell'])
  have hb45 := hb4.trans (hb5.mono hb4.size)
  have HS5 := Lib.hid (show BgSt w lb ka kb (none) (some N) w2.heap.size w4.heap.size hwZ hwZ w5 from
    ⟨(HB1.out.trans (HB3.out.mono HB1.out.size)).trans (hb45.mono (HB1.out.trans (HB3.out.mono HB1.out.size)).size), (HL1.out.below HB3.out).below hb45,
      heap_below hb45 (Nat.lt_of_lt_of_le (lt_of_block HG1.out) HB3.out.size) (heap_below HB3.out (lt_of_block HG1.out) HG1.out), heap_below hb45 (lt_of_block HG3.out) HG3.out, hg5⟩)
  have l5x := loadHd_at HS5.out.xx rfl
  have l5y := loadHd_at HS5.out.yy rfl
  have HYN := Lib.hid (Nat.lt_of_lt_of_le (Nat.lt_of_lt_of_le (lt_of_block HG1.out) HB3.out.size) hb4.size)
  clear hb4 hb5 hg5 hb45 HRB HB3 HG3 HG1
  have s5 := storeHd_at (cs := hdZ) HS5.out.rr rfl rfl (by simp [Value.oneCell'])
  go_wp2_with fail
  (try simp only [Exit.inBlock, Exit.then])
  have HGZ := setRow_heap w5 w.heap.size hdZ (hdZ) 105 (0, 0) HS5.out.rr
  have HBZ := below_setRow (Below.refl w5.heap.size w5 |> fun _ => HS5.out.bel) (Nat.le_refl w.heap.size) (hdZ)
  refine ret2_hd (cs := hdZ) rfl rfl rfl rfl rfl HGZ ?_
  exact ⟨rfl, HL.out.below HBZ, Only.of_below HBZ⟩
set_option maxRecDepth 100000 in
set_option maxHeartbeats 4000000 in
theorem begin5 (w : World) (lb : Nat) (ka kb : Bk) (N : Mm) (y : Hw) (hL : LgAt w lb ka kb (none) (some N))  (hb16 : 16 ≤ N.secs.length) (hdb : hdC (some N) = some y)  : Calls Tryz.prog 46 #[.pointer (some ⟨lb, 0, none⟩)] w fun e w' =>
    e = .returned (.tuple #[.agg (y).cs, .int .i64 0]) ∧ LgAt w' lb ka kb (none) (some N) ∧ Only (fS ka kb (none) (some N)) w w' := by
  obtain ⟨w1, hw1⟩ : ∃ w1, w1 = w.alloc (.cells hdZ 105) := ⟨_, rfl⟩
  have hg1 : w1.heap[w.heap.size]? = some (.cells hdZ 105 (0, 0)) := by rw [hw1]; exact heap_alloc_new _ _
  have hb1 : Below w.heap.size w w1 := by rw [hw1]; exact box_below0 _ _ _
  have HW := Lib.hid hw1
  have HG1 := Lib.hid hg1
  have HB1 := Lib.hid hb1
  have HL1 := Lib.hid (hL.below hb1)
  have HL := Lib.hid hL
  clear hw1 hg1 hb1 hL
  have c0 : w1.cell? ⟨lb, 0, none⟩ = some (.nilIface) := cell_at HL1.out.row rfl
  have c1 : w1.cell? ⟨lb, 1, none⟩ = some (.iface 25 (memV kb.p)) := cell_at HL1.out.row rfl
  have HRA := Lib.hid (fun nq => show Calls Tryz.prog 48 #[.nilIface] (w1.drewN nq) fun e w' => e = .returned (.tuple #[.agg hwZ.cs, .bool false]) ∧ Below (w1.drewN nq).heap.size (w1.drewN nq) w' by
    have h := readHead_w (w1.drewN nq) ka (none) (HL1.out.drewN nq).a (fun M e => by cases e)
    rw [show hdC none = none from rfl] at h
    exact h)
  have HRB := Lib.hid (fun (W : World) (h0 : LgAt W lb ka kb (none) (some N)) => show Calls Tryz.prog 48 #[.iface 25 (memV kb.p)] W fun e w' => e = .returned (.tuple #[.agg y.cs, .bool true]) ∧ Below W.heap.size W w' by
    have h := readHead_w W kb (some N) h0.b (fun M e => by cases e; omega)
    rw [hdb] at h
    exact h)
  go_enter Tryz.func46, Tryz.ntmps46
  go_upto_region 1 with fail
  rw [← HW.out]
  go_quiet (fail)
  go_wp2_with fail
  refine (HRA.out _).mono ?_
  rintro e w2 ⟨rfl, hb2⟩
  have hb2 := (below_drewN (Below.refl w1.heap.size w1) _).trans hb2
  obtain ⟨w3, st3, hg3, hb3⟩ := put_hd w2 hwZ.cs rfl (by simp [Value.oneCell'])
  have HB3 := Lib.hid (hb2.trans (hb3.mono hb2.size))
  have HG3 := Lib.hid hg3
  have HXN := Lib.hid (Nat.lt_of_lt_of_le (lt_of_block HG1.out) hb2.size)
  clear c0 c1 hb2 hb3 hg3 HRA
  go_wp2_with fail
  clear st3
  refine (HRB.out w3 (HL1.out.below HB3.out)).mono ?_
  rintro e w4 ⟨rfl, hb4⟩
  obtain ⟨w5, st5, hg5, hb5⟩ := put_hd w4 y.cs rfl (by simp [Value.oneCell'])
  have hb45 := hb4.trans (hb5.mono hb4.size)
  have HS5 := Lib.hid (show BgSt w lb ka kb (none) (some N) w2.heap.size w4.heap.size hwZ y w5 from
    ⟨(HB1.out.trans (HB3.out.mono HB1.out.size)).trans (hb45.mono (HB1.out.trans (HB3.out.mono HB1.out.size)).size), (HL1.out.below HB3.out).below hb45,
      heap_below hb45 (Nat.lt_of_lt_of_le (lt_of_block HG1.out) HB3.out.size) (heap_below HB3.out (lt_of_block HG1.out) HG1.out), heap_below hb45 (lt_of_block HG3.out) HG3.out, hg5⟩)
  have l5x := loadHd_at HS5.out.xx rfl
  have l5y := loadHd_at HS5.out.yy rfl
  have HYN := Lib.hid (Nat.lt_of_lt_of_le (Nat.lt_of_lt_of_le (lt_of_block HG1.out) HB3.out.size) hb4.size)
  clear hb4 hb5 hg5 hb45 HRB HB3 HG3 HG1
  have s5 := storeHd_at (cs := y.cs) HS5.out.rr rfl rfl (by simp [Value.oneCell'])
  go_wp2_with fail
  (try simp only [Exit.inBlock, Exit.then])
  have HGZ := setRow_heap w5 w.heap.size hdZ (y.cs) 105 (0, 0) HS5.out.rr
  have HBZ := below_setRow (Below.refl w5.heap.size w5 |> fun _ => HS5.out.bel) (Nat.le_refl w.heap.size) (y.cs)
  refine ret2_hd (cs := y.cs) rfl rfl rfl rfl rfl HGZ ?_
  exact ⟨rfl, HL.out.below HBZ, Only.of_below HBZ⟩
set_option maxRecDepth 100000 in
set_option maxHeartbeats 4000000 in
theorem begin6 (w : World) (lb : Nat) (ka kb : Bk) (M N : Mm) (hL : LgAt w lb ka kb (some M) (some N))  (ha16 : 16 ≤ M.secs.length) (hda : hdC (some M) = none) (hb16 : 16 ≤ N.secs.length) (hdb : hdC (some N) = none)  : Calls Tryz.prog 46 #[.pointer (some ⟨lb, 0, none⟩)] w fun e w' =>
    e = .returned (.tuple #[.agg (hwZ).cs, .int .i64 18]) ∧ LgAt w' lb ka kb (some M) (some N) ∧ Only (fS ka kb (some M) (some N)) w w' := by
  obtain ⟨w1, hw1⟩ : ∃ w1, w1 = w.alloc (.cells hdZ 105) := ⟨_, rfl⟩
  have hg1 : w1.heap[w.heap.size]? = some (.cells hdZ 105 (0, 0)) := by rw [hw1]; exact heap_alloc_new _ _
  have hb1 : Below w.heap.size w w1 := by rw [hw1]; exact box_below0 _ _ _
  have HW := Lib.hid hw1
  have HG1 := Lib.hid hg1
  have HB1 := Lib.hid hb1
  have HL1 := Lib.hid (hL.below hb1)
  have HL := Lib.hid hL
  clear hw1 hg1 hb1 hL
  have c0 : w1.cell? ⟨lb, 0, none⟩ = some (.iface 25 (memV ka.p)) := cell_at HL1.out.row rfl
  have c1 : w1.cell? ⟨lb, 1, none⟩ = some (.iface 25 (memV kb.p)) := cell_at HL1.out.row rfl
  have HRA := Lib.hid (fun nq => show Calls Tryz.prog 48 #[.iface 25 (memV ka.p)] (w1.drewN nq) fun e w' => e = .returned (.tuple #[.agg hwZ.cs, .bool false]) ∧ Below (w1.drewN nq).heap.size (w1.drewN nq) w' by
    have h := readHead_w (w1.drewN nq) ka (some M) (HL1.out.drewN nq).a (fun M e => by cases e; omega)
    rw [hda] at h
    exact h)
  have HRB := Lib.hid (fun (W : World) (h0 : LgAt W lb ka kb (some M) (some N)) => show Calls Tryz.prog 48 #[.iface 25 (memV kb.p)] W fun e w' => e = .returned (.tuple #[.agg hwZ.cs, .bool false]) ∧ Below W.heap.size W w' by
    have h := readHead_w W kb (some N) h0.b (fun M e => by cases e; omega)
    rw [hdb] at h
    exact h)
  go_enter Tryz.func46, Tryz.ntmps46
  go_upto_region 1 with fail
  rw [← HW.out]
  go_quiet (fail)
  go_wp2_with fail
  refine (HRA.out _).mono ?_
  rintro e w2 ⟨rfl, hb2⟩
  have hb2 := (below_drewN (Below.refl w1.heap.size w1) _).trans hb2
  obtain ⟨w3, st3, hg3, hb3⟩ := put_hd w2 hwZ.cs rfl (by simp [Value.oneCell'])
  have HB3 := Lib.hid (hb2.trans (hb3.mono hb2.size))
  have HG3 := Lib.hid hg3
  have HXN := Lib.hid (Nat.lt_of_lt_of_le (lt_of_block HG1.out) hb2.size)
  clear c0 c1 hb2 hb3 hg3 HRA
  go_wp2_with fail
  clear st3
  refine (HRB.out w3 (HL1.out.below HB3.out)).mono ?_
  rintro e w4 ⟨rfl, hb4⟩
  obtain ⟨w5, st5, hg5, hb5⟩ := put_hd w4 hwZ.cs rfl (by simp [Value.oneCell'])
  have hb45 := hb4.trans (hb5.mono hb4.size)
  have HS5 := Lib.hid (show BgSt w lb ka kb (some M) (some N) w2.heap.size w4.heap.size hwZ hwZ w5 from
    ⟨(HB1.out.trans (HB3.out.mono HB1.out.size)).trans (hb45.mono (HB1.out.trans (HB3.out.mono HB1.out.size)).size), (HL1.out.below HB3.out).below hb45,
      heap_below hb45 (Nat.lt_of_lt_of_le (lt_of_block HG1.out) HB3.out.size) (heap_below HB3.out (lt_of_block HG1.out) HG1.out), heap_below hb45 (lt_of_block HG3.out) HG3.out, hg5⟩)
  have l5x := loadHd_at HS5.out.xx rfl
  have l5y := loadHd_at HS5.out.yy rfl
  have HYN := Lib.hid (Nat.lt_of_lt_of_le (Nat.lt_of_lt_of_le (lt_of_block HG1.out) HB3.out.size) hb4.size)
  clear hb4 hb5 hg5 hb45 HRB HB3 HG3 HG1
  have s5 := storeHd_at (cs := hdZ) HS5.out.rr rfl rfl (by simp [Value.oneCell'])
  go_wp2_with fail
  (try simp only [Exit.inBlock, Exit.then])
  have HGZ := setRow_heap w5 w.heap.size hdZ (hdZ) 105 (0, 0) HS5.out.rr
  have HBZ := below_setRow (Below.refl w5.heap.size w5 |> fun _ => HS5.out.bel) (Nat.le_refl w.heap.size) (hdZ)
  refine ret2_hd (cs := hdZ) rfl rfl rfl rfl rfl HGZ ?_
  exact ⟨rfl, HL.out.below HBZ, Only.of_below HBZ⟩
set_option maxRecDepth 100000 in
set_option maxHeartbeats 4000000 in
theorem begin7 (w : World) (lb : Nat) (ka kb : Bk) (M N : Mm) (x : Hw) (hL : LgAt w lb ka kb (some M) (some N))  (ha16 : 16 ≤ M.secs.length) (hda : hdC (some M) = some x) (hb16 : 16 ≤ N.secs.length) (hdb : hdC (some N) = none) (hok : HwOk x) (hnx : x.n ≤ M.secs.length) : Calls Tryz.prog 46 #[.pointer (some ⟨lb, 0, none⟩)] w fun e w' =>
    e = .returned (.tuple #[.agg (x).cs, .int .i64 (dupV N M x).1]) ∧ LgAt w' lb ka kb (some M) (some (dupV N M x).2) ∧ Only (fS ka kb (some M) (some N)) w w' := by
  obtain ⟨w1, hw1⟩ : ∃ w1, w1 = w.alloc (.cells hdZ 105) := ⟨_, rfl⟩
  have hg1 : w1.heap[w.heap.size]? = some (.cells hdZ 105 (0, 0)) := by rw [hw1]; exact heap_alloc_new _ _
  have hb1 : Below w.heap.size w w1 := by rw [hw1]; exact box_below0 _ _ _
  have HW := Lib.hid hw1
  have HG1 := Lib.hid hg1
  have HB1 := Lib.hid hb1
  have HL1 := Lib.hid (hL.below hb1)
  have HL := Lib.hid hL
  clear hw1 hg1 hb1 hL
  have c0 : w1.cell? ⟨lb, 0, none⟩ = some (.iface 25 (memV ka.p)) := cell_at HL1.out.row rfl
  have c1 : w1.cell? ⟨lb, 1, none⟩ = some (.iface 25 (memV kb.p)) := cell_at HL1.out.row rfl
  have HRA := Lib.hid (fun nq => show Calls Tryz.prog 48 #[.iface 25 (memV ka.p)] (w1.drewN nq) fun e w' => e = .returned (.tuple #[.agg x.cs, .bool true]) ∧ Below (w1.drewN nq).heap.size (w1.drewN nq) w' by
    have h := readHead_w (w1.drewN nq) ka (some M) (HL1.out.drewN nq).a (fun M e => by cases e; omega)
    rw [hda] at h
    exact h)
  have HRB := Lib.hid (fun (W : World) (h0 : LgAt W lb ka kb (some M) (some N)) => show Calls Tryz.prog 48 #[.iface 25 (memV kb.p)] W fun e w' => e = .returned (.tuple #[.agg hwZ.cs, .bool false]) ∧ Below W.heap.size W w' by
    have h := readHead_w W kb (some N) h0.b (fun M e => by cases e; omega)
    rw [hdb] at h
    exact h)
  go_enter Tryz.func46, Tryz.ntmps46
  go_upto_region 1 with fail
  rw [← HW.out]
  go_quiet (fail)
  go_wp2_with fail
  refine (HRA.out _).mono ?_
  rintro e w2 ⟨rfl, hb2⟩
  have hb2 := (below_drewN (Below.refl w1.heap.size w1) _).trans hb2
  obtain ⟨w3, st3, hg3, hb3⟩ := put_hd w2 x.cs rfl (by simp [Value.oneCell'])
  have HB3 := Lib.hid (hb2.trans (hb3.mono hb2.size))
  have HG3 := Lib.hid hg3
  have HXN := Lib.hid (Nat.lt_of_lt_of_le (lt_of_block HG1.out) hb2.size)
  clear c0 c1 hb2 hb3 hg3 HRA
  go_wp2_with fail
  clear st3
  refine (HRB.out w3 (HL1.out.below HB3.out)).mono ?_
  rintro e w4 ⟨rfl, hb4⟩
  obtain ⟨w5, st5, hg5, hb5⟩ := put_hd w4 hwZ.cs rfl (by simp [Value.oneCell'])
  have hb45 := hb4.trans (hb5.mono hb4.size)
  have HS5 := Lib.hid (show BgSt w lb ka kb (some M) (some N) w2.heap.size w4.heap.size x hwZ w5 from
    ⟨(HB1.out.trans (HB3.out.mono HB1.out.size)).trans (hb45.mono (HB1.out.trans (HB3.out.mono HB1.out.size)).size), (HL1.out.below HB3.out).below hb45,
      heap_below hb45 (Nat.lt_of_lt_of_le (lt_of_block HG1.out) HB3.out.size) (heap_below HB3.out (lt_of_block HG1.out) HG1.out), heap_below hb45 (lt_of_block HG3.out) HG3.out, hg5⟩)
  have l5x := loadHd_at HS5.out.xx rfl
  have l5y := loadHd_at HS5.out.yy rfl
  have HYN := Lib.hid (Nat.lt_of_lt_of_le (Nat.lt_of_lt_of_le (lt_of_block HG1.out) HB3.out.size) hb4.size)
  clear hb4 hb5 hg5 hb45 HRB HB3 HG3 HG1
  have l5d := loadHd_at (w := w5.drew) HS5.out.xx rfl
  have HD := Lib.hid (fun (W : World) (hW : LgAt W lb ka kb (some M) (some N)) => show Calls Tryz.prog 57 #[.iface 25 (memV kb.p), .iface 25 (memV ka.p), .agg x.cs] W fun e w' =>
      e = .returned (.int .i64 (dupV N M x).1) ∧ MmAt w' kb (dupV N M x).2 ∧ Only kb.s W w' from dup_w W kb ka N M x hok (hW.b _ rfl) (hW.a _ rfl) (fun z h1 h2 => hW.dis z h2 h1) hnx)
  go_wp2_with fail
  go_region_held3 (fun w' => (loadHd ⟨w2.heap.size, 0, none⟩).run Tryz.prog w' = .ok (.agg x.cs) w') (first | exact l10d | exact l9d | exact l5d | fail)
    ((first
      | (go_at_call 57
         refine (HD.out _ (HS5.out.lg.below below_drew1)).mono ?_
         rintro e w8 ⟨rfl, hM8, ho8⟩
         have ho8 : Only kb.s w5 w8 := (Only.of_below below_drew1).trans ho8
         have hr8 := ho8.heap HS5.out.rr (fun hm => by have := HL.out.lt w.heap.size (Or.inr hm); omega)
         have l9d := loadHd_at (ho8.heap HS5.out.xx (fun hm => by have h1 := HL.out.lt _ (Or.inr hm); have h2 := HXN.out; omega)) rfl
         have l10d := loadHd_at ((setRow_other w8 w.heap.size w2.heap.size x.cs (by have := HXN.out; omega)).trans (ho8.heap HS5.out.xx (fun hm => by have h1 := HL.out.lt _ (Or.inr hm); have h2 := HXN.out; omega))) rfl
         have s9 := storeHd_at (cs := x.cs) hr8 rfl rfl (by simp [Value.oneCell'])
         have HR8 := Lib.hid hr8
         have HM8 := Lib.hid hM8
         have HO8 := Lib.hid ho8
         clear hM8 ho8 hr8)
      | fail))
  all_goals
    go_wp2_with fail
    (try simp only [Exit.inBlock, Exit.then])
    have HGZ := setRow_heap w8 w.heap.size hdZ x.cs 105 (0, 0) HR8.out
    have hoZ : Only [w.heap.size] w8 (w8.setRow w.heap.size x.cs) := (Only.refl _ _).setRow (Or.inl (by simp)) _
    have hds : ∀ z, z ∈ ka.s ∨ z ∈ kb.s → z ∉ [w.heap.size] := fun z hz hm => by have := HL.out.lt z hz; simp at hm; omega
    have hO8 : Only (fS ka kb (some M) (some N)) w (w8.setRow w.heap.size x.cs) := ((Only.of_below (S := fS ka kb (some M) (some N)) HS5.out.bel).then HO8.out (fun z hz => Or.inl (List.mem_append_right _ hz))).then hoZ (fun z hz => Or.inr (by simp at hz; omega))
    refine ret2_hd (cs := x.cs) rfl rfl rfl rfl rfl HGZ ?_
    refine ⟨rfl, HL.out.upd hO8 ?_ ?_ rfl rfl, hO8⟩
    · exact fun z e => ((HS5.out.lg.a z e).only HO8.out (fun u hu hm => HL.out.dis u hu hm)).only hoZ (fun u hu => hds u (Or.inl hu))
    · exact fun z e => by cases e; exact HM8.out.only hoZ (fun u hu => hds u (Or.inr hu))
set_option maxRecDepth 100000 in
set_option maxHeartbeats 4000000 in
theorem begin8 (w : World) (lb : Nat) (ka kb : Bk) (M N : Mm) (y : Hw) (hL : LgAt w lb ka kb (some M) (some N))  (ha16 : 16 ≤ M.secs.length) (hda : hdC (some M) = none) (hb16 : 16 ≤ N.secs.length) (hdb : hdC (some N) = some y) (hok : HwOk y) (hnx : y.n ≤ N.secs.length) : Calls Tryz.prog 46 #[.pointer (some ⟨lb, 0, none⟩)] w fun e w' =>
    e = .returned (.tuple #[.agg (y).cs, .int .i64 (dupV M N y).1]) ∧ LgAt w' lb ka kb (some (dupV M N y).2) (some N) ∧ Only (fS ka kb (some M) (some N)) w w' := by
  obtain ⟨w1, hw1⟩ : ∃ w1, w1 = w.alloc (.cells hdZ 105) := ⟨_, rfl⟩
  have hg1 : w1.heap[w.heap.size]? = some (.cells hdZ 105 (0, 0)) := by rw [hw1]; exact heap_alloc_new _ _
  have hb1 : Below w.heap.size w w1 := by rw [hw1]; exact box_below0 _ _ _
  have HW := Lib.hid hw1
  have HG1 := Lib.hid hg1
  have HB1 := Lib.hid hb1
  have HL1 := Lib.hid (hL.below hb1)
  have HL := Lib.hid hL
  clear hw1 hg1 hb1 hL
  have c0 : w1.cell? ⟨lb, 0, none⟩ = some (.iface 25 (memV ka.p)) := cell_at HL1.out.row rfl
  have c1 : w1.cell? ⟨lb, 1, none⟩ = some (.iface 25 (memV kb.p)) := cell_at HL1.out.row rfl
  have HRA := Lib.hid (fun nq => show Calls Tryz.prog 48 #[.iface 25 (memV ka.p)] (w1.drewN nq) fun e w' => e = .returned (.tuple #[.agg hwZ.cs, .bool false]) ∧ Below (w1.drewN nq).heap.size (w1.drewN nq) w' by
    have h := readHead_w (w1.drewN nq) ka (some M) (HL1.out.drewN nq).a (fun M e => by cases e; omega)
    rw [hda] at h
    exact h)
  have HRB := Lib.hid (fun (W : World) (h0 : LgAt W lb ka kb (some M) (some N)) => show Calls Tryz.prog 48 #[.iface 25 (memV kb.p)] W fun e w' => e = .returned (.tuple #[.agg y.cs, .bool true]) ∧ Below W.heap.size W w' by
    have h := readHead_w W kb (some N) h0.b (fun M e => by cases e; omega)
    rw [hdb] at h
    exact h)
  go_enter Tryz.func46, Tryz.ntmps46
  go_upto_region 1 with fail
  rw [← HW.out]
  go_quiet (fail)
  go_wp2_with fail
  refine (HRA.out _).mono ?_
  rintro e w2 ⟨rfl, hb2⟩
  have hb2 := (below_drewN (Below.refl w1.heap.size w1) _).trans hb2
  obtain ⟨w3, st3, hg3, hb3⟩ := put_hd w2 hwZ.cs rfl (by simp [Value.oneCell'])
  have HB3 := Lib.hid (hb2.trans (hb3.mono hb2.size))
  have HG3 := Lib.hid hg3
  have HXN := Lib.hid (Nat.lt_of_lt_of_le (lt_of_block HG1.out) hb2.size)
  clear c0 c1 hb2 hb3 hg3 HRA
  go_wp2_with fail
  clear st3
  refine (HRB.out w3 (HL1.out.below HB3.out)).mono ?_
  rintro e w4 ⟨rfl, hb4⟩
  obtain ⟨w5, st5, hg5, hb5⟩ := put_hd w4 y.cs rfl (by simp [Value.oneCell'])
  have hb45 := hb4.trans (hb5.mono hb4.size)
  have HS5 := Lib.hid (show BgSt w lb ka kb (some M) (some N) w2.heap.size w4.heap.size hwZ y w5 from
    ⟨(HB1.out.trans (HB3.out.mono HB1.out.size)).trans (hb45.mono (HB1.out.trans (HB3.out.mono HB1.out.size)).size), (HL1.out.below HB3.out).below hb45,
      heap_below hb45 (Nat.lt_of_lt_of_le (lt_of_block HG1.out) HB3.out.size) (heap_below HB3.out (lt_of_block HG1.out) HG1.out), heap_below hb45 (lt_of_block HG3.out) HG3.out, hg5⟩)
  have l5x := loadHd_at HS5.out.xx rfl
  have l5y := loadHd_at HS5.out.yy rfl
  have HYN := Lib.hid (Nat.lt_of_lt_of_le (Nat.lt_of_lt_of_le (lt_of_block HG1.out) HB3.out.size) hb4.size)
  clear hb4 hb5 hg5 hb45 HRB HB3 HG3 HG1
  have l5d := loadHd_at (w := w5.drew) HS5.out.yy rfl
  have HD := Lib.hid (fun (W : World) (hW : LgAt W lb ka kb (some M) (some N)) => show Calls Tryz.prog 57 #[.iface 25 (memV ka.p), .iface 25 (memV kb.p), .agg y.cs] W fun e w' =>
      e = .returned (.int .i64 (dupV M N y).1) ∧ MmAt w' ka (dupV M N y).2 ∧ Only ka.s W w' from dup_w W ka kb M N y hok (hW.a _ rfl) (hW.b _ rfl) (hW.dis) hnx)
  go_wp2_with fail
  go_region_held3 (fun w' => (loadHd ⟨w4.heap.size, 0, none⟩).run Tryz.prog w' = .ok (.agg y.cs) w') (first | exact l10d | exact l9d | exact l5d | fail)
    ((first
      | (go_at_call 57
         refine (HD.out _ (HS5.out.lg.below below_drew1)).mono ?_
         rintro e w8 ⟨rfl, hM8, ho8⟩
         have ho8 : Only ka.s w5 w8 := (Only.of_below below_drew1).trans ho8
         have hr8 := ho8.heap HS5.out.rr (fun hm => by have := HL.out.lt w.heap.size (Or.inl hm); omega)
         have l9d := loadHd_at (ho8.heap HS5.out.yy (fun hm => by have h1 := HL.out.lt _ (Or.inl hm); have h2 := HYN.out; omega)) rfl
         have l10d := loadHd_at ((setRow_other w8 w.heap.size w4.heap.size y.cs (by have := HYN.out; omega)).trans (ho8.heap HS5.out.yy (fun hm => by have h1 := HL.out.lt _ (Or.inl hm); have h2 := HYN.out; omega))) rfl
         have s9 := storeHd_at (cs := y.cs) hr8 rfl rfl (by simp [Value.oneCell'])
         have HR8 := Lib.hid hr8
         have HM8 := Lib.hid hM8
         have HO8 := Lib.hid ho8
         clear hM8 ho8 hr8)
      | fail))
  all_goals
    go_wp2_with fail
    (try simp only [Exit.inBlock, Exit.then])
    have HGZ := setRow_heap w8 w.heap.size hdZ y.cs 105 (0, 0) HR8.out
    have hoZ : Only [w.heap.size] w8 (w8.setRow w.heap.size y.cs) := (Only.refl _ _).setRow (Or.inl (by simp)) _
    have hds : ∀ z, z ∈ ka.s ∨ z ∈ kb.s → z ∉ [w.heap.size] := fun z hz hm => by have := HL.out.lt z hz; simp at hm; omega
    have hO8 : Only (fS ka kb (some M) (some N)) w (w8.setRow w.heap.size y.cs) := ((Only.of_below (S := fS ka kb (some M) (some N)) HS5.out.bel).then HO8.out (fun z hz => Or.inl (List.mem_append_left _ hz))).then hoZ (fun z hz => Or.inr (by simp at hz; omega))
    refine ret2_hd (cs := y.cs) rfl rfl rfl rfl rfl HGZ ?_
    refine ⟨rfl, HL.out.upd hO8 ?_ ?_ rfl rfl, hO8⟩
    · exact fun z e => by cases e; exact HM8.out.only hoZ (fun u hu => hds u (Or.inl hu))
    · exact fun z e => ((HS5.out.lg.b z e).only HO8.out (fun u hu hm => HL.out.dis u hm hu)).only hoZ (fun u hu => hds u (Or.inr hu))
set_option maxRecDepth 100000 in
set_option maxHeartbeats 4000000 in
theorem begin9 (w : World) (lb : Nat) (ka kb : Bk) (M N : Mm) (x y : Hw) (hL : LgAt w lb ka kb (some M) (some N))  (ha16 : 16 ≤ M.secs.length) (hda : hdC (some M) = some x) (hb16 : 16 ≤ N.secs.length) (hdb : hdC (some N) = some y) (hok : HwOk x) (hnx : x.n ≤ M.secs.length) (hxy : x.newer y = true) : Calls Tryz.prog 46 #[.pointer (some ⟨lb, 0, none⟩)] w fun e w' =>
    e = .returned (.tuple #[.agg (x).cs, .int .i64 (dupV N M x).1]) ∧ LgAt w' lb ka kb (some M) (some (dupV N M x).2) ∧ Only (fS ka kb (some M) (some N)) w w' := by
  obtain ⟨w1, hw1⟩ : ∃ w1, w1 = w.alloc (.cells hdZ 105) := ⟨_, rfl⟩
  have hg1 : w1.heap[w.heap.size]? = some (.cells hdZ 105 (0, 0)) := by rw [hw1]; exact heap_alloc_new _ _
  have hb1 : Below w.heap.size w w1 := by rw [hw1]; exact box_below0 _ _ _
  have HW := Lib.hid hw1
  have HG1 := Lib.hid hg1
  have HB1 := Lib.hid hb1
  have HL1 := Lib.hid (hL.below hb1)
  have HL := Lib.hid hL
  clear hw1 hg1 hb1 hL
  have c0 : w1.cell? ⟨lb, 0, none⟩ = some (.iface 25 (memV ka.p)) := cell_at HL1.out.row rfl
  have c1 : w1.cell? ⟨lb, 1, none⟩ = some (.iface 25 (memV kb.p)) := cell_at HL1.out.row rfl
  have HRA := Lib.hid (fun nq => show Calls Tryz.prog 48 #[.iface 25 (memV ka.p)] (w1.drewN nq) fun e w' => e = .returned (.tuple #[.agg x.cs, .bool true]) ∧ Below (w1.drewN nq).heap.size (w1.drewN nq) w' by
    have h := readHead_w (w1.drewN nq) ka (some M) (HL1.out.drewN nq).a (fun M e => by cases e; omega)
    rw [hda] at h
    exact h)
  have HRB := Lib.hid (fun (W : World) (h0 : LgAt W lb ka kb (some M) (some N)) => show Calls Tryz.prog 48 #[.iface 25 (memV kb.p)] W fun e w' => e = .returned (.tuple #[.agg y.cs, .bool true]) ∧ Below W.heap.size W w' by
    have h := readHead_w W kb (some N) h0.b (fun M e => by cases e; omega)
    rw [hdb] at h
    exact h)
  go_enter Tryz.func46, Tryz.ntmps46
  go_upto_region 1 with fail
  rw [← HW.out]
  go_quiet (fail)
  go_wp2_with fail
  refine (HRA.out _).mono ?_
  rintro e w2 ⟨rfl, hb2⟩
  have hb2 := (below_drewN (Below.refl w1.heap.size w1) _).trans hb2
  obtain ⟨w3, st3, hg3, hb3⟩ := put_hd w2 x.cs rfl (by simp [Value.oneCell'])
  have HB3 := Lib.hid (hb2.trans (hb3.mono hb2.size))
  have HG3 := Lib.hid hg3
  have HXN := Lib.hid (Nat.lt_of_lt_of_le (lt_of_block HG1.out) hb2.size)
  clear c0 c1 hb2 hb3 hg3 HRA
  go_wp2_with fail
  clear st3
  refine (HRB.out w3 (HL1.out.below HB3.out)).mono ?_
  rintro e w4 ⟨rfl, hb4⟩
  obtain ⟨w5, st5, hg5, hb5⟩ := put_hd w4 y.cs rfl (by simp [Value.oneCell'])
  have hb45 := hb4.trans (hb5.mono hb4.size)
  have HS5 := Lib.hid (show BgSt w lb ka kb (some M) (some N) w2.heap.size w4.heap.size x y w5 from
    ⟨(HB1.out.trans (HB3.out.mono HB1.out.size)).trans (hb45.mono (HB1.out.trans (HB3.out.mono HB1.out.size)).size), (HL1.out.below HB3.out).below hb45,
      heap_below hb45 (Nat.lt_of_lt_of_le (lt_of_block HG1.out) HB3.out.size) (heap_below HB3.out (lt_of_block HG1.out) HG1.out), heap_below hb45 (lt_of_block HG3.out) HG3.out, hg5⟩)
  have l5x := loadHd_at HS5.out.xx rfl
  have l5y := loadHd_at HS5.out.yy rfl
  have HYN := Lib.hid (Nat.lt_of_lt_of_le (Nat.lt_of_lt_of_le (lt_of_block HG1.out) HB3.out.size) hb4.size)
  clear hb4 hb5 hg5 hb45 HRB HB3 HG3 HG1
  have HN5 := newer_w x y w5
  rw [hxy] at HN5
  have HN5 := Lib.hid HN5
  go_wp2_with fail
  refine HN5.out.mono ?_
  rintro e w6 ⟨rfl, hbn⟩
  have HS6 := Lib.hid (HS5.out.below hbn)
  have l6x := loadHd_at HS6.out.xx rfl
  have l6y := loadHd_at HS6.out.yy rfl
  clear hbn
  have l6d := loadHd_at (w := w6.drew) HS6.out.xx rfl
  have HD := Lib.hid (fun (W : World) (hW : LgAt W lb ka kb (some M) (some N)) => show Calls Tryz.prog 57 #[.iface 25 (memV kb.p), .iface 25 (memV ka.p), .agg x.cs] W fun e w' =>
      e = .returned (.int .i64 (dupV N M x).1) ∧ MmAt w' kb (dupV N M x).2 ∧ Only kb.s W w' from dup_w W kb ka N M x hok (hW.b _ rfl) (hW.a _ rfl) (fun z h1 h2 => hW.dis z h2 h1) hnx)
  go_wp2_with fail
  go_region_held3 (fun w' => (loadHd ⟨w2.heap.size, 0, none⟩).run Tryz.prog w' = .ok (.agg x.cs) w') (first | exact l10d | exact l9d | exact l6d | fail)
    ((first
      | (go_at_call 57
         refine (HD.out _ (HS6.out.lg.below below_drew1)).mono ?_
         rintro e w8 ⟨rfl, hM8, ho8⟩
         have ho8 : Only kb.s w6 w8 := (Only.of_below below_drew1).trans ho8
         have hr8 := ho8.heap HS6.out.rr (fun hm => by have := HL.out.lt w.heap.size (Or.inr hm); omega)
         have l9d := loadHd_at (ho8.heap HS6.out.xx (fun hm => by have h1 := HL.out.lt _ (Or.inr hm); have h2 := HXN.out; omega)) rfl
         have l10d := loadHd_at ((setRow_other w8 w.heap.size w2.heap.size x.cs (by have := HXN.out; omega)).trans (ho8.heap HS6.out.xx (fun hm => by have h1 := HL.out.lt _ (Or.inr hm); have h2 := HXN.out; omega))) rfl
         have s9 := storeHd_at (cs := x.cs) hr8 rfl rfl (by simp [Value.oneCell'])
         have HR8 := Lib.hid hr8
         have HM8 := Lib.hid hM8
         have HO8 := Lib.hid ho8
         clear hM8 ho8 hr8)
      | fail))
  all_goals
    go_wp2_with fail
    (try simp only [Exit.inBlock, Exit.then])
    have HGZ := setRow_heap w8 w.heap.size hdZ x.cs 105 (0, 0) HR8.out
    have hoZ : Only [w.heap.size] w8 (w8.setRow w.heap.size x.cs) := (Only.refl _ _).setRow (Or.inl (by simp)) _
    have hds : ∀ z, z ∈ ka.s ∨ z ∈ kb.s → z ∉ [w.heap.size] := fun z hz hm => by have := HL.out.lt z hz; simp at hm; omega
    have hO8 : Only (fS ka kb (some M) (some N)) w (w8.setRow w.heap.size x.cs) := ((Only.of_below (S := fS ka kb (some M) (some N)) HS6.out.bel).then HO8.out (fun z hz => Or.inl (List.mem_append_right _ hz))).then hoZ (fun z hz => Or.inr (by simp at hz; omega))
    refine ret2_hd (cs := x.cs) rfl rfl rfl rfl rfl HGZ ?_
    refine ⟨rfl, HL.out.upd hO8 ?_ ?_ rfl rfl, hO8⟩
    · exact fun z e => ((HS6.out.lg.a z e).only HO8.out (fun u hu hm => HL.out.dis u hu hm)).only hoZ (fun u hu => hds u (Or.inl hu))
    · exact fun z e => by cases e; exact HM8.out.only hoZ (fun u hu => hds u (Or.inr hu))
set_option maxRecDepth 100000 in
set_option maxHeartbeats 4000000 in
theorem begin10 (w : World) (lb : Nat) (ka kb : Bk) (M N : Mm) (x y : Hw) (hL : LgAt w lb ka kb (some M) (some N))  (ha16 : 16 ≤ M.secs.length) (hda : hdC (some M) = some x) (hb16 : 16 ≤ N.secs.length) (hdb : hdC (some N) = some y) (hok : HwOk y) (hnx : y.n ≤ N.secs.length) (hxy : x.newer y = false) (hyx : y.newer x = true) : Calls Tryz.prog 46 #[.pointer (some ⟨lb, 0, none⟩)] w fun e w' =>
    e = .returned (.tuple #[.agg (y).cs, .int .i64 (dupV M N y).1]) ∧ LgAt w' lb ka kb (some (dupV M N y).2) (some N) ∧ Only (fS ka kb (some M) (some N)) w w' := by
  obtain ⟨w1, hw1⟩ : ∃ w1, w1 = w.alloc (.cells hdZ 105) := ⟨_, rfl⟩
  have hg1 : w1.heap[w.heap.size]? = some (.cells hdZ 105 (0, 0)) := by rw [hw1]; exact heap_alloc_new _ _
  have hb1 : Below w.heap.size w w1 := by rw [hw1]; exact box_below0 _ _ _
  have HW := Lib.hid hw1
  have HG1 := Lib.hid hg1
  have HB1 := Lib.hid hb1
  have HL1 := Lib.hid (hL.below hb1)
  have HL := Lib.hid hL
  clear hw1 hg1 hb1 hL
  have c0 : w1.cell? ⟨lb, 0, none⟩ = some (.iface 25 (memV ka.p)) := cell_at HL1.out.row rfl
  have c1 : w1.cell? ⟨lb, 1, none⟩ = some (.iface 25 (memV kb.p)) := cell_at HL1.out.row rfl
  have HRA := Lib.hid (fun nq => show Calls Tryz.prog 48 #[.iface 25 (memV ka.p)] (w1.drewN nq) fun e w' => e = .returned (.tuple #[.agg x.cs, .bool true]) ∧ Below (w1.drewN nq).heap.size (w1.drewN nq) w' by
    have h := readHead_w (w1.drewN nq) ka (some M) (HL1.out.drewN nq).a (fun M e => by cases e; omega)
    rw [hda] at h
    exact h)
  have HRB := Lib.hid (fun (W : World) (h0 : LgAt W lb ka kb (some M) (some N)) => show Calls Tryz.prog 48 #[.iface 25 (memV kb.p)] W fun e w' => e = .returned (.tuple #[.agg y.cs, .bool true]) ∧ Below W.heap.size W w' by
    have h := readHead_w W kb (some N) h0.b (fun M e => by cases e; omega)
    rw [hdb] at h
    exact h)
  go_enter Tryz.func46, Tryz.ntmps46
  go_upto_region 1 with fail
  rw [← HW.out]
  go_quiet (fail)
  go_wp2_with fail
  refine (HRA.out _).mono ?_
  rintro e w2 ⟨rfl, hb2⟩
  have hb2 := (below_drewN (Below.refl w1.heap.size w1) _).trans hb2
  obtain ⟨w3, st3, hg3, hb3⟩ := put_hd w2 x.cs rfl (by simp [Value.oneCell'])
  have HB3 := Lib.hid (hb2.trans (hb3.mono hb2.size))
  have HG3 := Lib.hid hg3
  have HXN := Lib.hid (Nat.lt_of_lt_of_le (lt_of_block HG1.out) hb2.size)
  clear c0 c1 hb2 hb3 hg3 HRA
  go_wp2_with fail
  clear st3
  refine (HRB.out w3 (HL1.out.below HB3.out)).mono ?_
  rintro e w4 ⟨rfl, hb4⟩
  obtain ⟨w5, st5, hg5, hb5⟩ := put_hd w4 y.cs rfl (by simp [Value.oneCell'])
  have hb45 := hb4.trans (hb5.mono hb4.size)
  have HS5 := Lib.hid (show BgSt w lb ka kb (some M) (some N) w2.heap.size w4.heap.size x y w5 from
    ⟨(HB1.out.trans (HB3.out.mono HB1.out.size)).trans (hb45.mono (HB1.out.trans (HB3.out.mono HB1.out.size)).size), (HL1.out.below HB3.out).below hb45,
      heap_below hb45 (Nat.lt_of_lt_of_le (lt_of_block HG1.out) HB3.out.size) (heap_below HB3.out (lt_of_block HG1.out) HG1.out), heap_below hb45 (lt_of_block HG3.out) HG3.out, hg5⟩)
  have l5x := loadHd_at HS5.out.xx rfl
  have l5y := loadHd_at HS5.out.yy rfl
  have HYN := Lib.hid (Nat.lt_of_lt_of_le (Nat.lt_of_lt_of_le (lt_of_block HG1.out) HB3.out.size) hb4.size)
  clear hb4 hb5 hg5 hb45 HRB HB3 HG3 HG1
  have HN5 := newer_w x y w5
  rw [hxy] at HN5
  have HN5 := Lib.hid HN5
  go_wp2_with fail
  refine HN5.out.mono ?_
  rintro e w6 ⟨rfl, hbn⟩
  have HS6 := Lib.hid (HS5.out.below hbn)
  have l6x := loadHd_at HS6.out.xx rfl
  have l6y := loadHd_at HS6.out.yy rfl
  clear hbn
  have HN6 := newer_w y x w6
  rw [hyx] at HN6
  have HN6 := Lib.hid HN6
  go_wp2_with fail
  refine HN6.out.mono ?_
  rintro e w7 ⟨rfl, hbn⟩
  have HS7 := Lib.hid (HS6.out.below hbn)
  have l7x := loadHd_at HS7.out.xx rfl
  have l7y := loadHd_at HS7.out.yy rfl
  clear hbn
  have l7d := loadHd_at (w := w7.drew) HS7.out.yy rfl
  have HD := Lib.hid (fun (W : World) (hW : LgAt W lb ka kb (some M) (some N)) => show Calls Tryz.prog 57 #[.iface 25 (memV ka.p), .iface 25 (memV kb.p), .agg y.cs] W fun e w' =>
      e = .returned (.int .i64 (dupV M N y).1) ∧ MmAt w' ka (dupV M N y).2 ∧ Only ka.s W w' from dup_w W ka kb M N y hok (hW.a _ rfl) (hW.b _ rfl) (hW.dis) hnx)
  go_wp2_with fail
  go_region_held3 (fun w' => (loadHd ⟨w4.heap.size, 0, none⟩).run Tryz.prog w' = .ok (.agg y.cs) w') (first | exact l10d | exact l9d | exact l7d | fail)
    ((first
      | (go_at_call 57
         refine (HD.out _ (HS7.out.lg.below below_drew1)).mono ?_
         rintro e w8 ⟨rfl, hM8, ho8⟩
         have ho8 : Only ka.s w7 w8 := (Only.of_below below_drew1).trans ho8
         have hr8 := ho8.heap HS7.out.rr (fun hm => by have := HL.out.lt w.heap.size (Or.inl hm); omega)
         have l9d := loadHd_at (ho8.heap HS7.out.yy (fun hm => by have h1 := HL.out.lt _ (Or.inl hm); have h2 := HYN.out; omega)) rfl
         have l10d := loadHd_at ((setRow_other w8 w.heap.size w4.heap.size y.cs (by have := HYN.out; omega)).trans (ho8.heap HS7.out.yy (fun hm => by have h1 := HL.out.lt _ (Or.inl hm); have h2 := HYN.out; omega))) rfl
         have s9 := storeHd_at (cs := y.cs) hr8 rfl rfl (by simp [Value.oneCell'])
         have HR8 := Lib.hid hr8
         have HM8 := Lib.hid hM8
         have HO8 := Lib.hid ho8
         clear hM8 ho8 hr8)
      | fail))
  all_goals
    go_wp2_with fail
    (try simp only [Exit.inBlock, Exit.then])
    have HGZ := setRow_heap w8 w.heap.size hdZ y.cs 105 (0, 0) HR8.out
    have hoZ : Only [w.heap.size] w8 (w8.setRow w.heap.size y.cs) := (Only.refl _ _).setRow (Or.inl (by simp)) _
    have hds : ∀ z, z ∈ ka.s ∨ z ∈ kb.s → z ∉ [w.heap.size] := fun z hz hm => by have := HL.out.lt z hz; simp at hm; omega
    have hO8 : Only (fS ka kb (some M) (some N)) w (w8.setRow w.heap.size y.cs) := ((Only.of_below (S := fS ka kb (some M) (some N)) HS7.out.bel).then HO8.out (fun z hz => Or.inl (List.mem_append_left _ hz))).then hoZ (fun z hz => Or.inr (by simp at hz; omega))
    refine ret2_hd (cs := y.cs) rfl rfl rfl rfl rfl HGZ ?_
    refine ⟨rfl, HL.out.upd hO8 ?_ ?_ rfl rfl, hO8⟩
    · exact fun z e => by cases e; exact HM8.out.only hoZ (fun u hu => hds u (Or.inl hu))
    · exact fun z e => ((HS7.out.lg.b z e).only HO8.out (fun u hu hm => HL.out.dis u hm hu)).only hoZ (fun u hu => hds u (Or.inr hu))
set_option maxRecDepth 100000 in
set_option maxHeartbeats 4000000 in
theorem begin11 (w : World) (lb : Nat) (ka kb : Bk) (M N : Mm) (x y : Hw) (hL : LgAt w lb ka kb (some M) (some N))  (ha16 : 16 ≤ M.secs.length) (hda : hdC (some M) = some x) (hb16 : 16 ≤ N.secs.length) (hdb : hdC (some N) = some y) (hxy : x.newer y = false) (hyx : y.newer x = false) : Calls Tryz.prog 46 #[.pointer (some ⟨lb, 0, none⟩)] w fun e w' =>
    e = .returned (.tuple #[.agg (x).cs, .int .i64 0]) ∧ LgAt w' lb ka kb (some M) (some N) ∧ Only (fS ka kb (some M) (some N)) w w' := by
  obtain ⟨w1, hw1⟩ : ∃ w1, w1 = w.alloc (.cells hdZ 105) := ⟨_, rfl⟩
  have hg1 : w1.heap[w.heap.size]? = some (.cells hdZ 105 (0, 0)) := by rw [hw1]; exact heap_alloc_new _ _
  have hb1 : Below w.heap.size w w1 := by rw [hw1]; exact box_below0 _ _ _
  have HW := Lib.hid hw1
  have HG1 := Lib.hid hg1
  have HB1 := Lib.hid hb1
  have HL1 := Lib.hid (hL.below hb1)
  have HL := Lib.hid hL
  clear hw1 hg1 hb1 hL
  have c0 : w1.cell? ⟨lb, 0, none⟩ = some (.iface 25 (memV ka.p)) := cell_at HL1.out.row rfl
  have c1 : w1.cell? ⟨lb, 1, none⟩ = some (.iface 25 (memV kb.p)) := cell_at HL1.out.row rfl
  have HRA := Lib.hid (fun nq => show Calls Tryz.prog 48 #[.iface 25 (memV ka.p)] (w1.drewN nq) fun e w' => e = .returned (.tuple #[.agg x.cs, .bool true]) ∧ Below (w1.drewN nq).heap.size (w1.drewN nq) w' by
    have h := readHead_w (w1.drewN nq) ka (some M) (HL1.out.drewN nq).a (fun M e => by cases e; omega)
    rw [hda] at h
    exact h)
  have HRB := Lib.hid (fun (W : World) (h0 : LgAt W lb ka kb (some M) (some N)) => show Calls Tryz.prog 48 #[.iface 25 (memV kb.p)] W fun e w' => e = .returned (.tuple #[.agg y.cs, .bool true]) ∧ Below W.heap.size W w' by
    have h := readHead_w W kb (some N) h0.b (fun M e => by cases e; omega)
    rw [hdb] at h
    exact h)
  go_enter Tryz.func46, Tryz.ntmps46
  go_upto_region 1 with fail
  rw [← HW.out]
  go_quiet (fail)
  go_wp2_with fail
  refine (HRA.out _).mono ?_
  rintro e w2 ⟨rfl, hb2⟩
  have hb2 := (below_drewN (Below.refl w1.heap.size w1) _).trans hb2
  obtain ⟨w3, st3, hg3, hb3⟩ := put_hd w2 x.cs rfl (by simp [Value.oneCell'])
  have HB3 := Lib.hid (hb2.trans (hb3.mono hb2.size))
  have HG3 := Lib.hid hg3
  have HXN := Lib.hid (Nat.lt_of_lt_of_le (lt_of_block HG1.out) hb2.size)
  clear c0 c1 hb2 hb3 hg3 HRA
  go_wp2_with fail
  clear st3
  refine (HRB.out w3 (HL1.out.below HB3.out)).mono ?_
  rintro e w4 ⟨rfl, hb4⟩
  obtain ⟨w5, st5, hg5, hb5⟩ := put_hd w4 y.cs rfl (by simp [Value.oneCell'])
  have hb45 := hb4.trans (hb5.mono hb4.size)
  have HS5 := Lib.hid (show BgSt w lb ka kb (some M) (some N) w2.heap.size w4.heap.size x y w5 from
    ⟨(HB1.out.trans (HB3.out.mono HB1.out.size)).trans (hb45.mono (HB1.out.trans (HB3.out.mono HB1.out.size)).size), (HL1.out.below HB3.out).below hb45,
      heap_below hb45 (Nat.lt_of_lt_of_le (lt_of_block HG1.out) HB3.out.size) (heap_below HB3.out (lt_of_block HG1.out) HG1.out), heap_below hb45 (lt_of_block HG3.out) HG3.out, hg5⟩)
  have l5x := loadHd_at HS5.out.xx rfl
  have l5y := loadHd_at HS5.out.yy rfl
  have HYN := Lib.hid (Nat.lt_of_lt_of_le (Nat.lt_of_lt_of_le (lt_of_block HG1.out) HB3.out.size) hb4.size)
  clear hb4 hb5 hg5 hb45 HRB HB3 HG3 HG1
  have HN5 := newer_w x y w5
  rw [hxy] at HN5
  have HN5 := Lib.hid HN5
  go_wp2_with fail
  refine HN5.out.mono ?_
  rintro e w6 ⟨rfl, hbn⟩
  have HS6 := Lib.hid (HS5.out.below hbn)
  have l6x := loadHd_at HS6.out.xx rfl
  have l6y := loadHd_at HS6.out.yy rfl
  clear hbn
  have HN6 := newer_w y x w6
  rw [hyx] at HN6
  have HN6 := Lib.hid HN6
  go_wp2_with fail
  refine HN6.out.mono ?_
  rintro e w7 ⟨rfl, hbn⟩
  have HS7 := Lib.hid (HS6.out.below hbn)
  have l7x := loadHd_at HS7.out.xx rfl
  have l7y := loadHd_at HS7.out.yy rfl
  clear hbn
  have s7 := storeHd_at (cs := x.cs) HS7.out.rr rfl rfl (by simp [Value.oneCell'])
  go_wp2_with fail
  (try simp only [Exit.inBlock, Exit.then])
  have HGZ := setRow_heap w7 w.heap.size hdZ (x.cs) 105 (0, 0) HS7.out.rr
  have HBZ := below_setRow (Below.refl w7.heap.size w7 |> fun _ => HS7.out.bel) (Nat.le_refl w.heap.size) (x.cs)
  refine ret2_hd (cs := x.cs) rfl rfl rfl rfl rfl HGZ ?_
  exact ⟨rfl, HL.out.below HBZ, Only.of_below HBZ⟩
/-- The beginning of each call. -/
theorem begin_w (w : World) (lb : Nat) (ka kb : Bk) (A B : Cp) (hL : LgAt w lb ka kb A B) (ha : ∀ M, A = some M → 16 ≤ M.secs.length) (hb : ∀ N, B = some N → 16 ≤ N.secs.length)
    (hx : ∀ M x, A = some M → hdC A = some x → x.n ≤ M.secs.length) (hy : ∀ N y, B = some N → hdC B = some y → y.n ≤ N.secs.length) :
    Calls Tryz.prog 46 #[.pointer (some ⟨lb, 0, none⟩)] w fun e w' =>
      e = .returned (.tuple #[.agg (beginV A B).h.cs, .int .i64 (beginV A B).e]) ∧ LgAt w' lb ka kb (beginV A B).a (beginV A B).b ∧ Only (fS ka kb A B) w w' := by
  have hok : ∀ {c : Cp} {x : Hw}, hdC c = some x → HwOk x := fun h => by
    unfold hdC at h
    obtain ⟨s, _, h2⟩ := Option.bind_eq_some_iff.1 h
    exact hwD_ok h2
  cases A with
  | none =>
    cases B with
    | none => exact begin1 w lb ka kb hL
    | some N =>
      cases hdb : hdC (some N) with
      | none =>
        have e : beginV none (some N) = ⟨hwZ, 18, none, some N⟩ := by unfold beginV; rw [if_neg (by simp), hdb]; rfl
        rw [e]; exact begin4 w lb ka kb N hL (hb N rfl) hdb
      | some y =>
        have e : beginV none (some N) = ⟨y, 0, none, some N⟩ := by unfold beginV; rw [if_neg (by simp), hdb]; rfl
        rw [e]; exact begin5 w lb ka kb N y hL (hb N rfl) hdb
  | some M =>
    cases B with
    | none =>
      cases hda : hdC (some M) with
      | none =>
        have e : beginV (some M) none = ⟨hwZ, 18, some M, none⟩ := by unfold beginV; rw [if_neg (by simp), hda]; rfl
        rw [e]; exact begin2 w lb ka kb M hL (ha M rfl) hda
      | some x =>
        have e : beginV (some M) none = ⟨x, 0, some M, none⟩ := by unfold beginV; rw [if_neg (by simp), hda]; rfl
        rw [e]; exact begin3 w lb ka kb M x hL (ha M rfl) hda
    | some N =>
      cases hda : hdC (some M) with
      | none =>
        cases hdb : hdC (some N) with
        | none =>
          have e : beginV (some M) (some N) = ⟨hwZ, 18, some M, some N⟩ := by unfold beginV; rw [if_neg (by simp), hda, hdb]
          rw [e]; exact begin6 w lb ka kb M N hL (ha M rfl) hda (hb N rfl) hdb
        | some y =>
          have e : beginV (some M) (some N) = ⟨y, (dupV M N y).1, some (dupV M N y).2, some N⟩ := by unfold beginV; rw [if_neg (by simp), hda, hdb]; rfl
          rw [e]; exact begin8 w lb ka kb M N y hL (ha M rfl) hda (hb N rfl) hdb (hok hdb) (hy N y rfl hdb)
      | some x =>
        cases hdb : hdC (some N) with
        | none =>
          have e : beginV (some M) (some N) = ⟨x, (dupV N M x).1, some M, some (dupV N M x).2⟩ := by unfold beginV; rw [if_neg (by simp), hda, hdb]; rfl
          rw [e]; exact begin7 w lb ka kb M N x hL (ha M rfl) hda (hb N rfl) hdb (hok hda) (hx M x rfl hda)
        | some y =>
          cases hxy : x.newer y with
          | true =>
            have e : beginV (some M) (some N) = ⟨x, (dupV N M x).1, some M, some (dupV N M x).2⟩ := by unfold beginV; rw [if_neg (by simp), hda, hdb]; simp only; rw [if_pos hxy]; rfl
            rw [e]; exact begin9 w lb ka kb M N x y hL (ha M rfl) hda (hb N rfl) hdb (hok hda) (hx M x rfl hda) hxy
          | false =>
            cases hyx : y.newer x with
            | true =>
              have e : beginV (some M) (some N) = ⟨y, (dupV M N y).1, some (dupV M N y).2, some N⟩ := by unfold beginV; rw [if_neg (by simp), hda, hdb]; simp only; rw [if_neg (by rw [hxy]; simp), if_pos hyx]; rfl
              rw [e]; exact begin10 w lb ka kb M N x y hL (ha M rfl) hda (hb N rfl) hdb (hok hdb) (hy N y rfl hdb) hxy hyx
            | false =>
              have e : beginV (some M) (some N) = ⟨x, 0, some M, some N⟩ := by unfold beginV; rw [if_neg (by simp), hda, hdb]; simp only; rw [if_neg (by rw [hxy]; simp), if_neg (by rw [hyx]; simp)]
              rw [e]; exact begin11 w lb ka kb M N x y hL (ha M rfl) hda (hb N rfl) hdb hxy hyx
end
end Go.Proofs.YtjpkdhnponcciaaGreatDoor

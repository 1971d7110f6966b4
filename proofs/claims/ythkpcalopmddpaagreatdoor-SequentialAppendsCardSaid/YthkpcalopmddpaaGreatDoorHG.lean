/-
  Walks: the errors of Append and Need ahead of reading, in the program and the reference. No condition but sizes.
  Walks: the law SequentialAppends. Conditions: the arguments lie in memory as slices; the table of codes is laid.
-/
import Derived.Test.YthkpcalopmddpaaGreatDoorHF
import Derived.Test.YthkpcalopmddpaaGreatDoorT43
import Derived.Test.YthkpcalopmddpaaGreatDoorGR
import Derived.Test.YthkpcalopmddpaaGreatDoorGJ
namespace Go.Proofs.YthkpcalopmddpaaGreatDoor

section
open Go.RowKit Go.Sort
attribute [local go_sem ↓] loadDs_down loadCon_down storeCon_down

set_option maxRecDepth 100000 in
set_option maxHeartbeats 2000000 in
theorem more_bad (org fmt len blk n : Int) (w : World) (pg rsv : Value) (hd : dsV org fmt len blk = false ∨ (dsV org fmt len blk = true ∧ numV n = false)) :
    Calls Tryz.prog 42 #[.agg (dsv org fmt len blk), pg, .int .i64 n, rsv] w fun e w' => e = .returned (.tuple #[.agg coz, .agg coz, .int .i64 1]) ∧ Below w.heap.size w w' := by
  have HV := Lib.hid (fun W => valid_any org fmt len blk W)
  obtain ⟨W1, hW1⟩ : ∃ W1, W1 = ((w.alloc (.cells (dsv org fmt len blk) 29)).alloc (.cells coz 77)).alloc (.cells coz 77) := ⟨_, rfl⟩
  have hB1 : Below w.heap.size w W1 := by rw [hW1]; exact (two_below w _ _ _ _).alloc (by simp; omega) _
  have hD1 : W1.heap[w.heap.size]? = some (.cells (dsv org fmt len blk) 29 (0, 0)) := by rw [hW1, halloc _ _ (by simp; omega), halloc _ _ (by simp)]; exact heap_alloc_new w _
  have hO1 : W1.heap[w.heap.size + 1]? = some (.cells coz 77 (0, 0)) := by rw [hW1, halloc _ _ (by simp)]; exact two_new w _ _ _ _
  have hM1 : W1.heap[w.heap.size + 2]? = some (.cells coz 77 (0, 0)) := by
    rw [hW1]
    have := heap_alloc_new ((w.alloc (.cells (dsv org fmt len blk) 29)).alloc (.cells coz 77)) (.cells coz 77)
    simpa using this
  have HW1 := Lib.hid hW1
  have HB1 := Lib.hid hB1
  have HD1 := Lib.hid hD1
  have HO1 := Lib.hid hO1
  have HM1 := Lib.hid hM1
  have H1 := Lib.hid (show coz.all (·.oneCell') = true by simp [Value.oneCell'])
  clear hW1 hB1 hD1 hO1 hM1
  have dl1 := loadDs_at HD1.out rfl
  rw [HW1.out] at dl1
  have HNV := Lib.hid (num_valid n)
  rcases hd with hd | ⟨hd, hn⟩
  · rw [hd] at HV
    clear hd
    go_enter Tryz.func42, Tryz.ntmps42
    go_wp2_with fail
    rw [← HW1.out]
    refine (HV.out _).mono ?_
    rintro e w2 ⟨rfl, hb2⟩
    have HB2 := Lib.hid (HB1.out.trans (hb2.mono HB1.out.size))
    have HD2 := Lib.hid ((hb2.block w.heap.size (lt_of_block HD1.out)).trans HD1.out)
    have HO2 := Lib.hid ((hb2.block (w.heap.size + 1) (lt_of_block HO1.out)).trans HO1.out)
    have HM2 := Lib.hid ((hb2.block (w.heap.size + 2) (lt_of_block HM1.out)).trans HM1.out)
    clear hb2 dl1 HD1 HO1 HM1
    obtain ⟨r1, r2, r3⟩ := rows_two (o' := coz) (m' := coz) (show w.heap.size + 1 ≠ w.heap.size + 2 by omega) HO2.out HM2.out
    have R1 := Lib.hid r1
    have R2 := Lib.hid r2
    have R3 := Lib.hid r3
    have HBF := Lib.hid (Below.setRow (Below.setRow HB2.out (show w.heap.size ≤ w.heap.size + 1 by omega) coz) (show w.heap.size ≤ w.heap.size + 2 by omega) coz)
    have st1 := storeCon_at (cs := coz) HO2.out rfl rfl H1.out
    have st2 := storeCon_at (cs := coz) R3.out rfl rfl H1.out
    clear r1 r2 r3
    go_wp2_with fail
    refine ret_con3 (cs := coz) (ds := coz) rfl rfl rfl rfl rfl rfl rfl R1.out R2.out ?_
    exact ⟨rfl, HBF.out⟩
  · rw [hd] at HV
    rw [hn] at HNV
    clear hd hn
    go_enter Tryz.func42, Tryz.ntmps42
    go_wp2_with fail
    rw [← HW1.out]
    refine (HV.out _).mono ?_
    rintro e w2 ⟨rfl, hb2⟩
    have HB2 := Lib.hid (HB1.out.trans (hb2.mono HB1.out.size))
    have HD2 := Lib.hid ((hb2.block w.heap.size (lt_of_block HD1.out)).trans HD1.out)
    have HO2 := Lib.hid ((hb2.block (w.heap.size + 1) (lt_of_block HO1.out)).trans HO1.out)
    have HM2 := Lib.hid ((hb2.block (w.heap.size + 2) (lt_of_block HM1.out)).trans HM1.out)
    clear hb2 dl1 HD1 HO1 HM1
    go_wp2_with fail
    refine (HNV.out _).mono ?_
    rintro e _ ⟨rfl, rfl⟩
    obtain ⟨r1, r2, r3⟩ := rows_two (o' := coz) (m' := coz) (show w.heap.size + 1 ≠ w.heap.size + 2 by omega) HO2.out HM2.out
    have R1 := Lib.hid r1
    have R2 := Lib.hid r2
    have R3 := Lib.hid r3
    have HBF := Lib.hid (Below.setRow (Below.setRow HB2.out (show w.heap.size ≤ w.heap.size + 1 by omega) coz) (show w.heap.size ≤ w.heap.size + 2 by omega) coz)
    have st1 := storeCon_at (cs := coz) HO2.out rfl rfl H1.out
    have st2 := storeCon_at (cs := coz) R3.out rfl rfl H1.out
    clear r1 r2 r3
    go_wp2_with fail
    refine ret_con3 (cs := coz) (ds := coz) rfl rfl rfl rfl rfl rfl rfl R1.out R2.out ?_
    exact ⟨rfl, HBF.out⟩

set_option maxRecDepth 100000 in
set_option maxHeartbeats 2000000 in
theorem more_not (org fmt len blk n : Int) (w : World) (B : Nat) (pg rsv : Value) (rs : List By) (hr : Txt w B rsv rs) (hB : B ≤ w.heap.size) (hrl : rs.length ≤ 1000) (hd : dsV org fmt len blk = true) (hn : numV n = true) (ha : alwV fmt len rs = false) :
    Calls Tryz.prog 42 #[.agg (dsv org fmt len blk), pg, .int .i64 n, rsv] w fun e w' => e = .returned (.tuple #[.agg coz, .agg coz, .int .i64 2]) ∧ Below w.heap.size w w' := by
  have HV := Lib.hid (fun W => valid_any org fmt len blk W)
  obtain ⟨W1, hW1⟩ : ∃ W1, W1 = ((w.alloc (.cells (dsv org fmt len blk) 29)).alloc (.cells coz 77)).alloc (.cells coz 77) := ⟨_, rfl⟩
  have hB1 : Below w.heap.size w W1 := by rw [hW1]; exact (two_below w _ _ _ _).alloc (by simp; omega) _
  have hD1 : W1.heap[w.heap.size]? = some (.cells (dsv org fmt len blk) 29 (0, 0)) := by rw [hW1, halloc _ _ (by simp; omega), halloc _ _ (by simp)]; exact heap_alloc_new w _
  have hO1 : W1.heap[w.heap.size + 1]? = some (.cells coz 77 (0, 0)) := by rw [hW1, halloc _ _ (by simp)]; exact two_new w _ _ _ _
  have hM1 : W1.heap[w.heap.size + 2]? = some (.cells coz 77 (0, 0)) := by
    rw [hW1]
    have := heap_alloc_new ((w.alloc (.cells (dsv org fmt len blk) 29)).alloc (.cells coz 77)) (.cells coz 77)
    simpa using this
  have HW1 := Lib.hid hW1
  have HB1 := Lib.hid hB1
  have HD1 := Lib.hid hD1
  have HO1 := Lib.hid hO1
  have HM1 := Lib.hid hM1
  have H1 := Lib.hid (show coz.all (·.oneCell') = true by simp [Value.oneCell'])
  clear hW1 hB1 hD1 hO1 hM1
  have dl1 := loadDs_at HD1.out rfl
  rw [HW1.out] at dl1
  have HNV := Lib.hid (num_valid n)
  obtain ⟨ra, rc, rfl, hrs, _, _, _⟩ := hr.at_
  have HAL := Lib.hid (fun W b1 b2 => allowed_any org fmt len blk W B ra rc rs b1 b2 (by omega))
  have HS := Lib.hid hrs
  rw [hd] at HV
  rw [hn] at HNV
  rw [ha] at HAL
  clear hd hn ha hr hrs
  go_enter Tryz.func42, Tryz.ntmps42
  go_wp2_with fail
  rw [← HW1.out]
  refine (HV.out _).mono ?_
  rintro e w2 ⟨rfl, hb2⟩
  have HB2 := Lib.hid (HB1.out.trans (hb2.mono HB1.out.size))
  have HD2 := Lib.hid ((hb2.block w.heap.size (lt_of_block HD1.out)).trans HD1.out)
  have HO2 := Lib.hid ((hb2.block (w.heap.size + 1) (lt_of_block HO1.out)).trans HO1.out)
  have HM2 := Lib.hid ((hb2.block (w.heap.size + 2) (lt_of_block HM1.out)).trans HM1.out)
  clear hb2 dl1 HD1 HO1 HM1
  have dl2 := loadDs_at HD2.out rfl
  go_wp2_with fail
  refine (HNV.out _).mono ?_
  rintro e _ ⟨rfl, rfl⟩
  go_wp2_with fail
  refine (HAL.out _ (HS.out.below (HB2.out.mono hB)) (Nat.le_trans hB HB2.out.size)).mono ?_
  rintro e w3 ⟨rfl, hb3⟩
  have HB3 := Lib.hid (HB2.out.trans (hb3.mono HB2.out.size))
  have HO3 := Lib.hid ((hb3.block (w.heap.size + 1) (lt_of_block HO2.out)).trans HO2.out)
  have HM3 := Lib.hid ((hb3.block (w.heap.size + 2) (lt_of_block HM2.out)).trans HM2.out)
  clear hb3 dl2 HD2 HO2 HM2
  obtain ⟨r1, r2, r3⟩ := rows_two (o' := coz) (m' := coz) (show w.heap.size + 1 ≠ w.heap.size + 2 by omega) HO3.out HM3.out
  have R1 := Lib.hid r1
  have R2 := Lib.hid r2
  have R3 := Lib.hid r3
  have HBF := Lib.hid (Below.setRow (Below.setRow HB3.out (show w.heap.size ≤ w.heap.size + 1 by omega) coz) (show w.heap.size ≤ w.heap.size + 2 by omega) coz)
  have st1 := storeCon_at (cs := coz) HO3.out rfl rfl H1.out
  have st2 := storeCon_at (cs := coz) R3.out rfl rfl H1.out
  clear r1 r2 r3
  go_wp2_with fail
  refine ret_con3 (cs := coz) (ds := coz) rfl rfl rfl rfl rfl rfl rfl R1.out R2.out ?_
  exact ⟨rfl, HBF.out⟩

set_option maxRecDepth 100000 in
set_option maxHeartbeats 2000000 in
theorem need_err (org fmt len blk : Int) (k : Int) (hk0 : k ≠ 0) (w : World) (pg rsv : Value) (HM : ∀ W : World, Below w.heap.size w W → Calls Tryz.prog 42 #[.agg (dsv org fmt len blk), pg, .int .i64 0, rsv] W fun e w' => e = .returned (.tuple #[.agg coz, .agg coz, .int .i64 k]) ∧ Below W.heap.size W w') :
    Calls Tryz.prog 23 #[.agg (dsv org fmt len blk), pg, rsv] w fun e w' => NPost w (.error k) e w' := by
  have HD0 := Lib.hid (heap_alloc_new w (.cells (dsv org fmt len blk) 29))
  have HB0 := Lib.hid (box_below w (dsv org fmt len blk) 29)
  have HMM := Lib.hid HM
  have e1 : (k == 0) = false := by simp [hk0]
  have e2 : (k != 0) = true := by simp [hk0]
  have dl0 := loadDs_at HD0.out rfl
  clear HM hk0
  go_enter Tryz.func23, Tryz.ntmps23
  go_wp2_with fail
  refine (HMM.out _ HB0.out).mono ?_
  rintro e w1 ⟨rfl, hb1⟩
  have HB1 := Lib.hid (HB0.out.trans (hb1.mono HB0.out.size))
  obtain ⟨s1, s2⟩ := store_news w1 coz coz rfl rfl coz_one coz_one
  obtain ⟨b1, _, _⟩ := con_news w1 coz coz
  have HBF := Lib.hid (HB1.out.trans (b1.mono HB1.out.size))
  clear hb1 b1 dl0
  go_wp2_with fail
  go_ret2
  exact ⟨fun n hn => (by cases hn), fun k hk => (by cases hk; rfl), HBF.out⟩

set_option maxRecDepth 100000 in
set_option maxHeartbeats 2000000 in
theorem app_err (org fmt len blk n : Int) (k : Int) (hk0 : k ≠ 0) (w : World) (pg rsv : Value) (HM : ∀ W : World, Below w.heap.size w W → Calls Tryz.prog 42 #[.agg (dsv org fmt len blk), pg, .int .i64 n, rsv] W fun e w' => e = .returned (.tuple #[.agg coz, .agg coz, .int .i64 k]) ∧ Below W.heap.size W w') :
    Calls Tryz.prog 21 #[.agg (dsv org fmt len blk), pg, .int .i64 n, rsv] w fun e w' => WPost w [] k e w' := by
  have HD0 := Lib.hid (heap_alloc_new w (.cells (dsv org fmt len blk) 29))
  have HB0 := Lib.hid (box_below w (dsv org fmt len blk) 29)
  have HMM := Lib.hid HM
  have e1 : (k == 0) = false := by simp [hk0]
  have e2 : (k != 0) = true := by simp [hk0]
  have dl0 := loadDs_at HD0.out rfl
  clear HM hk0
  go_enter Tryz.func21, Tryz.ntmps21
  go_wp2_with fail
  refine (HMM.out _ HB0.out).mono ?_
  rintro e w1 ⟨rfl, hb1⟩
  have HB1 := Lib.hid (HB0.out.trans (hb1.mono HB0.out.size))
  obtain ⟨s1, s2⟩ := store_news w1 coz coz rfl rfl coz_one coz_one
  obtain ⟨b1, _, _⟩ := con_news w1 coz coz
  have HBF := Lib.hid (HB1.out.trans (b1.mono HB1.out.size))
  clear hb1 b1 dl0
  go_wp2_with fail
  go_ret2
  exact WPost.none k HBF.out

set_option maxRecDepth 100000 in
set_option maxHeartbeats 2000000 in
theorem rneed_bad (org fmt len blk : Int) (w : World) (l rsv : Value) (hd : dsV org fmt len blk = false) :
    Calls Tryz.prog 24 #[.agg (dsv org fmt len blk), l, rsv] w fun e w' => NPost w (.error 1) e w' := by
  have HD0 := Lib.hid (heap_alloc_new w (.cells (dsv org fmt len blk) 29))
  have HB0 := Lib.hid (box_below w (dsv org fmt len blk) 29)
  have HV := Lib.hid (fun W => rvalid_any org fmt len blk W)
  rw [hd] at HV
  clear hd
  have dl := loadDs_at HD0.out rfl
  go_enter Tryz.func24, Tryz.ntmps24
  go_wp2_with fail
  refine (HV.out _).mono ?_
  rintro e w1 ⟨rfl, hb1⟩
  have HB1 := Lib.hid (HB0.out.trans (hb1.mono HB0.out.size))
  have HD1 := Lib.hid ((hb1.block w.heap.size (lt_of_block HD0.out)).trans HD0.out)
  clear hb1 dl
  go_wp2_with fail
  go_ret2
  exact ⟨fun n hn => (by cases hn), fun k hk => (by cases hk; rfl), HB1.out⟩

set_option maxRecDepth 100000 in
set_option maxHeartbeats 2000000 in
theorem rapp_bad (org fmt len blk n : Int) (w : World) (l rsv : Value) (hd : dsV org fmt len blk = false ∨ (dsV org fmt len blk = true ∧ numV n = false)) :
    Calls Tryz.prog 22 #[.agg (dsv org fmt len blk), l, .int .i64 n, rsv] w fun e w' => WPost w [] 1 e w' := by
  have HD0 := Lib.hid (heap_alloc_new w (.cells (dsv org fmt len blk) 29))
  have HB0 := Lib.hid (box_below w (dsv org fmt len blk) 29)
  have HV := Lib.hid (fun W => rvalid_any org fmt len blk W)
  have HNV := Lib.hid (rnum_valid n)
  rcases hd with hd | ⟨hd, hn⟩
  · rw [hd] at HV
    clear hd
    have dl := loadDs_at HD0.out rfl
    go_enter Tryz.func22, Tryz.ntmps22
    go_wp2_with fail
    refine (HV.out _).mono ?_
    rintro e w1 ⟨rfl, hb1⟩
    have HB1 := Lib.hid (HB0.out.trans (hb1.mono HB0.out.size))
    have HD1 := Lib.hid ((hb1.block w.heap.size (lt_of_block HD0.out)).trans HD0.out)
    clear hb1 dl
    go_wp2_with fail
    go_ret2
    exact WPost.none 1 HB1.out
  · rw [hd] at HV
    rw [hn] at HNV
    clear hd hn
    have dl := loadDs_at HD0.out rfl
    go_enter Tryz.func22, Tryz.ntmps22
    go_wp2_with fail
    refine (HV.out _).mono ?_
    rintro e w1 ⟨rfl, hb1⟩
    have HB1 := Lib.hid (HB0.out.trans (hb1.mono HB0.out.size))
    have HD1 := Lib.hid ((hb1.block w.heap.size (lt_of_block HD0.out)).trans HD0.out)
    clear hb1 dl
    go_wp2_with fail
    refine (HNV.out _).mono ?_
    rintro e _ ⟨rfl, rfl⟩
    go_wp2_with fail
    go_ret2
    exact WPost.none 1 HB1.out

set_option maxRecDepth 100000 in
set_option maxHeartbeats 2000000 in
theorem rneed_not (fmt : Int) (len blk : Nat) (w : World) (B : Nat) (l rsv : Value) (rs : List By) (hr : Txt w B rsv rs) (hB : B ≤ w.heap.size) (hrl : rs.length ≤ 1000) (hd : dsV 0 fmt len blk = true) (ha : alwV fmt len rs = false) :
    Calls Tryz.prog 24 #[.agg (dsv 0 fmt len blk), l, rsv] w fun e w' => NPost w (.error 2) e w' := by
  have HD0 := Lib.hid (heap_alloc_new w (.cells (dsv 0 fmt len blk) 29))
  have HB0 := Lib.hid (box_below w (dsv 0 fmt len blk) 29)
  have HV := Lib.hid (fun W => rvalid_any 0 fmt len blk W)
  obtain ⟨ra, rc, rfl, hrs, _, _, _⟩ := hr.at_
  have HAL := Lib.hid (fun W b1 b2 => rallowed_any fmt len blk W B ra rc rs b1 b2 (by omega) hd)
  have HS := Lib.hid hrs
  rw [hd] at HV
  rw [ha] at HAL
  clear hd ha hr hrs
  have dl := loadDs_at HD0.out rfl
  go_enter Tryz.func24, Tryz.ntmps24
  go_wp2_with fail
  refine (HV.out _).mono ?_
  rintro e w1 ⟨rfl, hb1⟩
  have HB1 := Lib.hid (HB0.out.trans (hb1.mono HB0.out.size))
  have HD1 := Lib.hid ((hb1.block w.heap.size (lt_of_block HD0.out)).trans HD0.out)
  clear hb1 dl
  have dl := loadDs_at HD1.out rfl
  go_wp2_with fail
  refine (HAL.out _ (HS.out.below (HB1.out.mono hB)) (Nat.le_trans hB HB1.out.size)).mono ?_
  rintro e w2 ⟨rfl, hb2⟩
  have HB2 := Lib.hid (HB1.out.trans (hb2.mono HB1.out.size))
  clear hb2 dl
  go_wp2_with fail
  go_ret2
  exact ⟨fun n hn => (by cases hn), fun k hk => (by cases hk; rfl), HB2.out⟩

set_option maxRecDepth 100000 in
set_option maxHeartbeats 2000000 in
theorem rapp_not (fmt : Int) (len blk : Nat) (n : Int) (w : World) (B : Nat) (l rsv : Value) (rs : List By) (hr : Txt w B rsv rs) (hB : B ≤ w.heap.size) (hrl : rs.length ≤ 1000) (hd : dsV 0 fmt len blk = true) (hn : numV n = true) (ha : alwV fmt len rs = false) :
    Calls Tryz.prog 22 #[.agg (dsv 0 fmt len blk), l, .int .i64 n, rsv] w fun e w' => WPost w [] 2 e w' := by
  have HD0 := Lib.hid (heap_alloc_new w (.cells (dsv 0 fmt len blk) 29))
  have HB0 := Lib.hid (box_below w (dsv 0 fmt len blk) 29)
  have HV := Lib.hid (fun W => rvalid_any 0 fmt len blk W)
  obtain ⟨ra, rc, rfl, hrs, _, _, _⟩ := hr.at_
  have HAL := Lib.hid (fun W b1 b2 => rallowed_any fmt len blk W B ra rc rs b1 b2 (by omega) hd)
  have HS := Lib.hid hrs
  have HNV := Lib.hid (rnum_valid n)
  rw [hn] at HNV
  rw [hd] at HV
  rw [ha] at HAL
  clear hd ha hr hrs
  have dl := loadDs_at HD0.out rfl
  go_enter Tryz.func22, Tryz.ntmps22
  go_wp2_with fail
  refine (HV.out _).mono ?_
  rintro e w1 ⟨rfl, hb1⟩
  have HB1 := Lib.hid (HB0.out.trans (hb1.mono HB0.out.size))
  have HD1 := Lib.hid ((hb1.block w.heap.size (lt_of_block HD0.out)).trans HD0.out)
  clear hb1 dl
  have dl := loadDs_at HD1.out rfl
  go_wp2_with fail
  refine (HNV.out _).mono ?_
  rintro e _ ⟨rfl, rfl⟩
  go_wp2_with fail
  refine (HAL.out _ (HS.out.below (HB1.out.mono hB)) (Nat.le_trans hB HB1.out.size)).mono ?_
  rintro e w2 ⟨rfl, hb2⟩
  have HB2 := Lib.hid (HB1.out.trans (hb2.mono HB1.out.size))
  clear hb2 dl
  go_wp2_with fail
  go_ret2
  exact WPost.none 2 HB2.out
end

section
open Go.RowKit Go.Sort
attribute [local go_sem ↓] loadDs_down

/-- What Append gives. -/
def appR (org fmt len blk n : Int) (l rs : List By) : List (Nat × By) × Int :=
  if dsV org fmt len blk = true ∧ numV n = true then
    (if alwV fmt len rs = true then appT fmt len.toNat blk.toNat n.toNat rs (readV fmt len.toNat blk.toNat l) else ([], 2)) else ([], 1)
/-- What Need gives. -/
def needR (org fmt len blk : Int) (l rs : List By) : Except Int Nat :=
  if dsV org fmt len blk = true then
    (if alwV fmt len rs = true then needT fmt len.toNat blk.toNat rs (readV fmt len.toNat blk.toNat l) else .error 2) else .error 1
def npV : Except Int Nat → Nat × Int
  | .ok n => (n, 0)
  | .error k => (0, k)
theorem NPost.val {w w' : World} {T : Except Int Nat} {e : Ending} (h : NPost w T e w') : e = .returned (.tuple #[.int .i64 (npV T).1, .int .i64 (npV T).2]) ∧ Below w.heap.size w w' := by
  cases T with
  | ok n => exact ⟨h.good n rfl, h.bel⟩
  | error k => exact ⟨h.bad k rfl, h.bel⟩
theorem appR_len (org fmt len blk n : Int) (l rs : List By) (hl : l.length ≤ 60) (hrl : rs.length ≤ 12) : (appR org fmt len blk n l rs).1.length ≤ 30000000 := by
  unfold appR
  split
  · rename_i hd
    obtain ⟨rfl, h1, h2⟩ := ds_pos hd.1
    obtain ⟨len', rfl⟩ := Int.eq_ofNat_of_zero_le h1
    obtain ⟨blk', rfl⟩ := Int.eq_ofNat_of_zero_le h2
    split
    · rename_i ha
      simp only [Int.toNat_natCast]
      cases hc : readV fmt len' blk' l with
      | error k => simp [appT]
      | ok c =>
        have hb := (more_bounds hd.1 hl hrl ha hc).2.2.1
        show (appW _ _ _ _).length ≤ _
        unfold appW
        rw [List.length_cons]
        have := chgW_len (secA c.str.length c.str) (secA (streamOf (packV fmt len' blk' (c.recs ++ rs))).length (streamOf (packV fmt len' blk' (c.recs ++ rs)))) 0
        have := secA_le (streamOf (packV fmt len' blk' (c.recs ++ rs))).length (streamOf (packV fmt len' blk' (c.recs ++ rs)))
        omega
    · simp
  · simp

theorem app_any (org fmt len blk n : Int) (w : World) (B : Nat) (a : Option Addr) (cap : Nat) (l : List By) (rsv : Value) (rs : List By) (h : Strs w B a l) (hr : Txt w B rsv rs) (hB : B ≤ w.heap.size) (hl : l.length ≤ 60) (hrl : rs.length ≤ 12) (hc0 : Codes w) :
    Calls Tryz.prog 21 #[.agg (dsv org fmt len blk), pgv a l.length cap, .int .i64 n, rsv] w fun e w' => WPost w (appR org fmt len blk n l rs).1 (appR org fmt len blk n l rs).2 e w' := by
  cases hd : dsV org fmt len blk
  · rw [show appR org fmt len blk n l rs = ([], 1) by unfold appR; rw [if_neg (by rw [hd]; simp)]]
    exact app_err org fmt len blk n 1 (by decide) w _ rsv (fun W _ => more_bad org fmt len blk n W _ rsv (Or.inl hd))
  · cases hn : numV n
    · rw [show appR org fmt len blk n l rs = ([], 1) by unfold appR; rw [if_neg (by rw [hn]; simp)]]
      exact app_err org fmt len blk n 1 (by decide) w _ rsv (fun W _ => more_bad org fmt len blk n W _ rsv (Or.inr ⟨hd, hn⟩))
    · have hR : appR org fmt len blk n l rs = if alwV fmt len rs = true then appT fmt len.toNat blk.toNat n.toNat rs (readV fmt len.toNat blk.toNat l) else ([], 2) := by unfold appR; rw [if_pos ⟨hd, hn⟩]
      obtain ⟨rfl, h1, h2⟩ := ds_pos hd
      obtain ⟨len', rfl⟩ := Int.eq_ofNat_of_zero_le h1
      obtain ⟨blk', rfl⟩ := Int.eq_ofNat_of_zero_le h2
      obtain ⟨n', rfl⟩ := Int.eq_ofNat_of_zero_le (show 0 ≤ n by have := hn; simp [numV] at this; omega)
      rw [hR]
      cases ha : alwV fmt len' rs
      · rw [if_neg (by simp)]
        exact app_err 0 fmt len' blk' n' 2 (by decide) w _ rsv (fun W hb => more_not 0 fmt len' blk' n' W B _ rsv rs (hr.below (hb.mono hB)) (Nat.le_trans hB hb.size) (by omega) hd hn ha)
      · rw [if_pos rfl]
        exact app_ok w B a cap l fmt len' blk' n' rsv rs h hr hB (by omega) (by omega) hd hn ha (fun c hc => by have := (more_bounds hd hl hrl ha hc).2.2.1; omega) hc0
theorem rapp_any (org fmt len blk n : Int) (w : World) (B : Nat) (a : Option Addr) (cap : Nat) (l : List By) (rsv : Value) (rs : List By) (h : Strs w B a l) (hr : Txt w B rsv rs) (hB : B ≤ w.heap.size) (hl : l.length ≤ 60) (hrl : rs.length ≤ 12) :
    Calls Tryz.prog 22 #[.agg (dsv org fmt len blk), .slice a l.length cap, .int .i64 n, rsv] w fun e w' => WPost w (appR org fmt len blk n l rs).1 (appR org fmt len blk n l rs).2 e w' := by
  cases hd : dsV org fmt len blk
  · rw [show appR org fmt len blk n l rs = ([], 1) by unfold appR; rw [if_neg (by rw [hd]; simp)]]
    exact rapp_bad org fmt len blk n w _ rsv (Or.inl hd)
  · cases hn : numV n
    · rw [show appR org fmt len blk n l rs = ([], 1) by unfold appR; rw [if_neg (by rw [hn]; simp)]]
      exact rapp_bad org fmt len blk n w _ rsv (Or.inr ⟨hd, hn⟩)
    · have hR : appR org fmt len blk n l rs = if alwV fmt len rs = true then appT fmt len.toNat blk.toNat n.toNat rs (readV fmt len.toNat blk.toNat l) else ([], 2) := by unfold appR; rw [if_pos ⟨hd, hn⟩]
      obtain ⟨rfl, h1, h2⟩ := ds_pos hd
      obtain ⟨len', rfl⟩ := Int.eq_ofNat_of_zero_le h1
      obtain ⟨blk', rfl⟩ := Int.eq_ofNat_of_zero_le h2
      obtain ⟨n', rfl⟩ := Int.eq_ofNat_of_zero_le (show 0 ≤ n by have := hn; simp [numV] at this; omega)
      rw [hR]
      cases ha : alwV fmt len' rs
      · rw [if_neg (by simp)]
        exact rapp_not fmt len' blk' n' w B _ rsv rs hr hB (by omega) hd hn ha
      · rw [if_pos rfl]
        exact rapp_ok w B a cap l fmt len' blk' n' rsv rs h hr hB hl hrl hd hn ha
theorem need_any (org fmt len blk : Int) (w : World) (B : Nat) (a : Option Addr) (cap : Nat) (l : List By) (rsv : Value) (rs : List By) (h : Strs w B a l) (hr : Txt w B rsv rs) (hB : B ≤ w.heap.size) (hl : l.length ≤ 60) (hrl : rs.length ≤ 12) (hc0 : Codes w) :
    Calls Tryz.prog 23 #[.agg (dsv org fmt len blk), pgv a l.length cap, rsv] w fun e w' => NPost w (needR org fmt len blk l rs) e w' := by
  cases hd : dsV org fmt len blk
  · rw [show needR org fmt len blk l rs = .error 1 by unfold needR; rw [if_neg (by rw [hd]; simp)]]
    exact need_err org fmt len blk 1 (by decide) w _ rsv (fun W _ => more_bad org fmt len blk 0 W _ rsv (Or.inl hd))
  · have hR : needR org fmt len blk l rs = if alwV fmt len rs = true then needT fmt len.toNat blk.toNat rs (readV fmt len.toNat blk.toNat l) else .error 2 := by unfold needR; rw [if_pos hd]
    obtain ⟨rfl, h1, h2⟩ := ds_pos hd
    obtain ⟨len', rfl⟩ := Int.eq_ofNat_of_zero_le h1
    obtain ⟨blk', rfl⟩ := Int.eq_ofNat_of_zero_le h2
    rw [hR]
    cases ha : alwV fmt len' rs
    · rw [if_neg (by simp)]
      exact need_err 0 fmt len' blk' 2 (by decide) w _ rsv (fun W hb => more_not 0 fmt len' blk' 0 W B _ rsv rs (hr.below (hb.mono hB)) (Nat.le_trans hB hb.size) (by omega) hd (by decide) ha)
    · rw [if_pos rfl]
      exact need_ok w B a cap l fmt len' blk' rsv rs h hr hB (by omega) (by omega) hd ha (fun c hc => by have := (more_bounds hd hl hrl ha hc).2.2.1; omega) hc0
theorem rneed_any (org fmt len blk : Int) (w : World) (B : Nat) (a : Option Addr) (cap : Nat) (l : List By) (rsv : Value) (rs : List By) (h : Strs w B a l) (hr : Txt w B rsv rs) (hB : B ≤ w.heap.size) (hl : l.length ≤ 60) (hrl : rs.length ≤ 12) :
    Calls Tryz.prog 24 #[.agg (dsv org fmt len blk), .slice a l.length cap, rsv] w fun e w' => NPost w (needR org fmt len blk l rs) e w' := by
  cases hd : dsV org fmt len blk
  · rw [show needR org fmt len blk l rs = .error 1 by unfold needR; rw [if_neg (by rw [hd]; simp)]]
    exact rneed_bad org fmt len blk w _ rsv hd
  · have hR : needR org fmt len blk l rs = if alwV fmt len rs = true then needT fmt len.toNat blk.toNat rs (readV fmt len.toNat blk.toNat l) else .error 2 := by unfold needR; rw [if_pos hd]
    obtain ⟨rfl, h1, h2⟩ := ds_pos hd
    obtain ⟨len', rfl⟩ := Int.eq_ofNat_of_zero_le h1
    obtain ⟨blk', rfl⟩ := Int.eq_ofNat_of_zero_le h2
    rw [hR]
    cases ha : alwV fmt len' rs
    · rw [if_neg (by simp)]
      exact rneed_not fmt len' blk' w B _ rsv rs hr hB (by omega) hd ha
    · rw [if_pos rfl]
      exact rneed_ok w B a cap l fmt len' blk' rsv rs h hr hB hl hrl hd ha

set_option maxRecDepth 100000 in
set_option maxHeartbeats 4000000 in
theorem appends_few (org fmt len blk : Int) (w : World) (B : Nat) (a : Option Addr) (cap : Nat) (l : List By) (n : Int) (ra : Option Addr) (rc : Nat) (rs : List By) (h : Strs w B a l) (hB : B ≤ w.heap.size) (hl : l.length ≤ 9223372036854775807) (hc0 : Codes w) (hrs : Strs w B ra rs) (hrl : rs.length ≤ 9223372036854775807) (hf : fewV l 60 200 = false ∨ (fewV l 60 200 = true ∧ fewV rs 12 1100 = false)) :
    Calls Tryz.prog 5 #[.agg #[.int .i64 org, .int .i64 fmt, .int .i64 len, .int .i64 blk], .slice a l.length cap, .int .i64 n, .slice ra rs.length rc] w fun e w' => e = .returned (.bool true) ∧ Below w.heap.size w w' := by
  have HB0 := Lib.hid (box_below w #[.int .i64 org, .int .i64 fmt, .int .i64 len, .int .i64 blk] 23)
  have HF := Lib.hid (fun W h' => rfew_any W B a cap l h' hl)
  have HFR := Lib.hid (fun W h' => few_any W B ra rc rs 12 1100 h' hrl)
  have HRS := Lib.hid hrs
  clear hrs
  rcases hf with hf | ⟨hf, hfr⟩
  all_goals rw [hf] at HF
  rotate_left
  all_goals try rw [hfr] at HFR
  · go_enter Tryz.func5, Tryz.ntmps5
    go_wp2_with fail
    refine (awake_any _ (hc0.below HB0.out hc0.pos)).mono ?_
    rintro e w1 ⟨rfl, hb1⟩
    have HB1 := Lib.hid (HB0.out.trans (hb1.mono HB0.out.size))
    clear hb1
    go_wp2_with fail
    refine (HF.out _ (h.below (HB1.out.mono hB))).mono ?_
    rintro e _ ⟨rfl, rfl⟩
    go_wp2_with fail
    refine (HFR.out _ (HRS.out.below (HB1.out.mono hB))).mono ?_
    rintro e _ ⟨rfl, rfl⟩
    go_wp2_with fail
    refine (awake_any _ (hc0.below HB1.out hc0.pos)).mono ?_
    rintro e w2 ⟨rfl, hb2⟩
    have HB2 := Lib.hid (HB1.out.trans (hb2.mono HB1.out.size))
    clear hb2
    go_wp2_with fail
    go_ret
    exact ⟨rfl, HB2.out⟩
  · go_enter Tryz.func5, Tryz.ntmps5
    go_wp2_with fail
    refine (awake_any _ (hc0.below HB0.out hc0.pos)).mono ?_
    rintro e w1 ⟨rfl, hb1⟩
    have HB1 := Lib.hid (HB0.out.trans (hb1.mono HB0.out.size))
    clear hb1
    go_wp2_with fail
    refine (HF.out _ (h.below (HB1.out.mono hB))).mono ?_
    rintro e _ ⟨rfl, rfl⟩
    go_wp2_with fail
    refine (awake_any _ (hc0.below HB1.out hc0.pos)).mono ?_
    rintro e w2 ⟨rfl, hb2⟩
    have HB2 := Lib.hid (HB1.out.trans (hb2.mono HB1.out.size))
    clear hb2
    go_wp2_with fail
    go_ret
    exact ⟨rfl, HB2.out⟩

set_option maxRecDepth 100000 in
set_option maxHeartbeats 8000000 in
theorem appends_all (org fmt len blk : Int) (w : World) (B : Nat) (a : Option Addr) (cap : Nat) (l : List By) (n : Int) (ra : Option Addr) (rc : Nat) (rs : List By) (h : Strs w B a l) (hB : B ≤ w.heap.size) (hc0 : Codes w) (hf : fewV l 60 200 = true) (hr : Txt w B (.slice ra rs.length rc) rs) (hfr : fewV rs 12 1100 = true) :
    Calls Tryz.prog 5 #[.agg #[.int .i64 org, .int .i64 fmt, .int .i64 len, .int .i64 blk], .slice a l.length cap, .int .i64 n, .slice ra rs.length rc] w fun e w' => e = .returned (.bool true) ∧ Below w.heap.size w w' := by
  have hl := few_len hf
  have HB0 := Lib.hid (box_below w #[.int .i64 org, .int .i64 fmt, .int .i64 len, .int .i64 blk] 23)
  have HF := Lib.hid (fun W h' => rfew_any W B a cap l h' (by omega))
  rw [hf] at HF
  clear hf
  have HRT := Lib.hid hr
  obtain ⟨_, _, hve, hrs, _, _, _⟩ := hr.at_
  obtain ⟨rfl, _, rfl⟩ := Value.slice.inj hve
  have HRS := Lib.hid hrs
  have hrl := few_len hfr
  have HFR := Lib.hid (fun W h' => few_any W B ra rc rs 12 1100 h' (by omega))
  rw [hfr] at HFR
  clear hfr hve hrs hr
  have hpa := fun W h1 h2 h3 h4 => app_any org fmt len blk n W B a cap l (.slice ra rs.length rc) rs h1 h2 h3 hl hrl h4
  have hra := fun W h1 h2 h3 => rapp_any org fmt len blk n W B a cap l (.slice ra rs.length rc) rs h1 h2 h3 hl hrl
  have hpn := fun W h1 h2 h3 h4 => need_any org fmt len blk W B a cap l (.slice ra rs.length rc) rs h1 h2 h3 hl hrl h4
  have hrn := fun W h1 h2 h3 => rneed_any org fmt len blk W B a cap l (.slice ra rs.length rc) rs h1 h2 h3 hl hrl
  have hlen := appR_len org fmt len blk n l rs hl hrl
  generalize appR org fmt len blk n l rs = AR at hpa hra hlen
  generalize needR org fmt len blk l rs = NR at hpn hrn
  obtain ⟨aw, ak⟩ := AR
  obtain ⟨nv, hnv⟩ : ∃ nv, npV NR = nv := ⟨_, rfl⟩
  obtain ⟨nn, nk⟩ := nv
  have HNV := Lib.hid hnv
  have HAL := Lib.hid hlen
  have HPA := Lib.hid hpa
  have HRA := Lib.hid hra
  have HPN := Lib.hid hpn
  have HRN := Lib.hid hrn
  clear hpa hra hpn hrn hnv hlen
  have H1 := Lib.hid (show (dsv org fmt len blk).all (·.oneCell') = true by simp [dsv, Value.oneCell'])
  have HSZ := Lib.hid (show (dsv org fmt len blk).size = 21 from rfl)
  have HST := Lib.hid h
  clear h
  go_enter Tryz.func5, Tryz.ntmps5
  go_wp2_with fail
  refine (awake_any _ (hc0.below HB0.out hc0.pos)).mono ?_
  rintro e w1 ⟨rfl, hb1⟩
  have HB1 := Lib.hid (HB0.out.trans (hb1.mono HB0.out.size))
  have HX1 := Lib.hid ((hb1.block w.heap.size (by simp)).trans (heap_alloc_new w (.cells #[.int .i64 org, .int .i64 fmt, .int .i64 len, .int .i64 blk] 23)))
  clear hb1
  go_wp2_with fail
  refine (HF.out _ (HST.out.below (HB1.out.mono hB))).mono ?_
  rintro e _ ⟨rfl, rfl⟩
  have x0 := cell_at (i := 0) (v := .int .i64 org) HX1.out rfl
  have x1 := cell_at (i := 1) (v := .int .i64 fmt) HX1.out rfl
  have x2 := cell_at (i := 2) (v := .int .i64 len) HX1.out rfl
  have x3 := cell_at (i := 3) (v := .int .i64 blk) HX1.out rfl
  go_wp2_with fail
  refine (HFR.out _ (HRS.out.below (HB1.out.mono hB))).mono ?_
  rintro e _ ⟨rfl, rfl⟩
  go_wp2_with fail
  refine (set_any _ _ _ _ _).mono ?_
  rintro e w2 ⟨rfl, hb2⟩
  have HB2 := Lib.hid (HB1.out.trans (hb2.mono HB1.out.size))
  clear hb2 x0 x1 x2 x3 HX1
  obtain ⟨W3, hW3⟩ : ∃ W3, W3 = (w2.alloc (.cells dsz 29)).setRow w2.heap.size (dsv org fmt len blk) := ⟨_, rfl⟩
  have hd3 : W3.heap[w2.heap.size]? = some (.cells (dsv org fmt len blk) 29 (0, 0)) := by rw [hW3]; exact setRow_heap _ _ _ _ _ _ (heap_alloc_new _ _)
  have HB3 := Lib.hid (show Below w.heap.size w W3 by rw [hW3]; exact Below.setRow (HB2.out.alloc HB2.out.size _) HB2.out.size _)
  have HD3 := Lib.hid hd3
  have HW3 := Lib.hid hW3
  clear hd3 hW3
  have dl3 := loadDs_at HD3.out rfl
  go_wp2_with (
    refine wpList_store_rowTo rfl _ _ _ rfl rfl w2.heap.size (dsv org fmt len blk) rfl rfl 29 dsz (heap_alloc_new _ _) (by rw [info_ds, HSZ.out]) (by rw [HSZ.out]; rfl) H1.out ?_
    rw [← HW3.out])
  refine (HPA.out _ (HST.out.below (HB3.out.mono hB)) (HRT.out.below (HB3.out.mono hB)) (Nat.le_trans hB HB3.out.size) (hc0.below HB3.out hc0.pos)).mono ?_
  rintro e w4 hP
  have HBB4 := Lib.hid hP.bel
  obtain ⟨ov, rfl, oo⟩ := hP.out
  obtain ⟨oa, oc, rfl, ow⟩ := wrs_of_row oo
  have Ho := Lib.hid ow
  clear hP oo ow
  have HB4 := Lib.hid (HB3.out.trans (HBB4.out.mono HB3.out.size))
  have HD4 := Lib.hid ((HBB4.out.block w2.heap.size (lt_of_block HD3.out)).trans HD3.out)
  clear dl3
  have dl4 := loadDs_at HD4.out rfl
  go_wp2_with fail
  refine (HRA.out _ (HST.out.below (HB4.out.mono hB)) (HRT.out.below (HB4.out.mono hB)) (Nat.le_trans hB HB4.out.size)).mono ?_
  rintro e w5 hP
  have HBB5 := Lib.hid hP.bel
  obtain ⟨pv, rfl, po⟩ := hP.out
  obtain ⟨pa, pc, rfl, pw⟩ := wrs_of_row po
  have Hp := Lib.hid pw
  clear hP po pw
  have HB5 := Lib.hid (HB4.out.trans (HBB5.out.mono HB4.out.size))
  have HD5 := Lib.hid ((HBB5.out.block w2.heap.size (lt_of_block HD4.out)).trans HD4.out)
  replace Ho := Lib.hid (Ho.out.below HBB5.out)
  clear dl4
  have dl5 := loadDs_at HD5.out rfl
  go_wp2_with fail
  refine (HPN.out _ (HST.out.below (HB5.out.mono hB)) (HRT.out.below (HB5.out.mono hB)) (Nat.le_trans hB HB5.out.size) (hc0.below HB5.out hc0.pos)).mono ?_
  rintro e w6 hP
  have hP := hP.val
  rw [HNV.out] at hP
  obtain ⟨rfl, hb6⟩ := hP
  have HBB6 := Lib.hid hb6
  clear hb6
  have HB6 := Lib.hid (HB5.out.trans (HBB6.out.mono HB5.out.size))
  have HD6 := Lib.hid ((HBB6.out.block w2.heap.size (lt_of_block HD5.out)).trans HD5.out)
  replace Ho := Lib.hid (Ho.out.below HBB6.out)
  replace Hp := Lib.hid (Hp.out.below HBB6.out)
  clear dl5
  have dl6 := loadDs_at HD6.out rfl
  go_wp2_with fail
  refine (HRN.out _ (HST.out.below (HB6.out.mono hB)) (HRT.out.below (HB6.out.mono hB)) (Nat.le_trans hB HB6.out.size)).mono ?_
  rintro e w7 hP
  have hP := hP.val
  rw [HNV.out] at hP
  obtain ⟨rfl, hb7⟩ := hP
  have HBB7 := Lib.hid hb7
  clear hb7
  have HB7 := Lib.hid (HB6.out.trans (HBB7.out.mono HB6.out.size))
  have HD7 := Lib.hid ((HBB7.out.block w2.heap.size (lt_of_block HD6.out)).trans HD6.out)
  replace Ho := Lib.hid (Ho.out.below HBB7.out)
  replace Hp := Lib.hid (Hp.out.below HBB7.out)
  clear dl6
  have dl7 := loadDs_at HD7.out rfl
  clear dl7
  have hal := HAL.out
  have s1 := same_any w7 oa pa oc pc aw aw Ho.out Hp.out (by omega) (by omega)
  rw [show decide (aw = aw) = true by simp] at s1
  go_wp2_with fail
  refine s1.mono ?_
  rintro e w8 ⟨rfl, hb8⟩
  have HB8 := Lib.hid (HB7.out.trans (hb8.mono HB7.out.size))
  clear hb8
  go_wp2_with fail
  go_ret
  exact ⟨rfl, HB8.out⟩

theorem appends_any (org fmt len blk : Int) (w : World) (B : Nat) (a : Option Addr) (cap : Nat) (l : List By) (n : Int) (ra : Option Addr) (rc : Nat) (rs : List By) (h : Strs w B a l) (hB : B ≤ w.heap.size) (hl : l.length ≤ 9223372036854775807) (hc0 : Codes w) (hr : Txt w B (.slice ra rs.length rc) rs) :
    Calls Tryz.prog 5 #[.agg #[.int .i64 org, .int .i64 fmt, .int .i64 len, .int .i64 blk], .slice a l.length cap, .int .i64 n, .slice ra rs.length rc] w fun e w' => e = .returned (.bool true) ∧ Below w.heap.size w w' := by
  obtain ⟨_, _, hve, hrs, _, _, hc63⟩ := hr.at_
  have hve2 := Value.slice.inj hve
  rw [← hve2.1] at hrs
  cases hf : fewV l 60 200
  · exact appends_few org fmt len blk w B a cap l n ra rc rs h hB hl hc0 hrs (by rename_i h3; omega) (Or.inl hf)
  · cases hfr : fewV rs 12 1100
    · exact appends_few org fmt len blk w B a cap l n ra rc rs h hB hl hc0 hrs (by rename_i h3; omega) (Or.inr ⟨hf, hfr⟩)
    · exact appends_all org fmt len blk w B a cap l n ra rc rs h hB hc0 hf hr hfr
end

end Go.Proofs.YthkpcalopmddpaaGreatDoor

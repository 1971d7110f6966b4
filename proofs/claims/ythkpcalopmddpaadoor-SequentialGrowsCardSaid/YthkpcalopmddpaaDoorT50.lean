/-
  Walks: the law SequentialGrows. Conditions: the groups lie in memory as a slice of slices; the table of codes is laid.
-/
import Derived.Test.YthkpcalopmddpaaDoorT47
import Derived.Test.YthkpcalopmddpaaDoorGR
import Derived.Test.YthkpcalopmddpaaDoorGJ
import Derived.IntWalk
namespace Go.Proofs.YthkpcalopmddpaaDoor
open Go.RowKit Go.Sort
attribute [local go_sem ↓] loadDs_down

theorem writes_fst2 (n k : Nat) (S : By) {b : Nat} (hb : (secA S.length S).length ≤ b) : ∀ x ∈ writesOf n k S, x.1 ≤ b := by
  intro x hx
  unfold writesOf at hx
  rcases List.mem_cons.1 hx with rfl | hx
  · simp
  · have hx' : x ∈ chgW [] 0 (secA S.length S) := by rw [chgW_nil]; exact hx
    have := chgW_fst [] _ 0 x hx'
    omega

set_option maxRecDepth 100000 in
set_option maxHeartbeats 4000000 in
theorem grows_not (org fmt len blk : Int) (w : World) (B : Nat) (v : Value) (L : List (List By)) (h : Grp w B v L) (hB : B ≤ w.heap.size) (hL : L.length ≤ 9223372036854775807) (hc0 : Codes w) (hn : fewG L = false ∨ (fewG L = true ∧ dsV org fmt len blk = false)) :
    Calls Tryd.prog 6 #[.agg #[.int .i64 org, .int .i64 fmt, .int .i64 len, .int .i64 blk], v] w fun e w' => e = .returned (.bool true) ∧ Below w.heap.size w w' := by
  have HB0 := Lib.hid (box_below w #[.int .i64 org, .int .i64 fmt, .int .i64 len, .int .i64 blk] 23)
  have HX0 := Lib.hid (heap_alloc_new w (.cells #[.int .i64 org, .int .i64 fmt, .int .i64 len, .int .i64 blk] 23))
  have HF := Lib.hid (fun W h' => fewg_any W B v L h' hL)
  have HV := Lib.hid (fun W => valid_any org fmt len blk W)
  have H1 := Lib.hid (show (dsv org fmt len blk).all (·.oneCell') = true by simp [dsv, Value.oneCell'])
  have hsz : (dsv org fmt len blk).size = 21 := rfl
  have HSZ := Lib.hid hsz
  clear hsz
  have x0 := cell_at (i := 0) (v := .int .i64 org) HX0.out rfl
  have x1 := cell_at (i := 1) (v := .int .i64 fmt) HX0.out rfl
  have x2 := cell_at (i := 2) (v := .int .i64 len) HX0.out rfl
  have x3 := cell_at (i := 3) (v := .int .i64 blk) HX0.out rfl
  go_enter Tryd.func6, Tryd.ntmps6
  go_wp2_with fail
  refine (set_any _ _ _ _ _).mono ?_
  rintro e w2 ⟨rfl, hb2⟩
  have HB2 := Lib.hid (HB0.out.trans (hb2.mono HB0.out.size))
  clear hb2 x0 x1 x2 x3 HX0
  obtain ⟨W3, hW3⟩ : ∃ W3, W3 = (w2.alloc (.cells dsz 28)).setRow w2.heap.size (dsv org fmt len blk) := ⟨_, rfl⟩
  have hd3 : W3.heap[w2.heap.size]? = some (.cells (dsv org fmt len blk) 28 (0, 0)) := by rw [hW3]; exact setRow_heap _ _ _ _ _ _ (heap_alloc_new _ _)
  have HB3 := Lib.hid (show Below w.heap.size w W3 by rw [hW3]; exact Below.setRow (HB2.out.alloc HB2.out.size _) HB2.out.size _)
  have HD3 := Lib.hid hd3
  have HW3 := Lib.hid hW3
  clear hd3 hW3
  go_wp2_with (
    refine wpList_store_rowTo rfl _ _ _ rfl rfl w2.heap.size (dsv org fmt len blk) rfl rfl 28 dsz (heap_alloc_new _ _) (by rw [info_ds, HSZ.out]) (by rw [HSZ.out]; rfl) H1.out ?_
    rw [← HW3.out])
  refine (awake_any _ (hc0.below HB3.out hc0.pos)).mono ?_
  rintro e w4 ⟨rfl, hb4⟩
  have HB4 := Lib.hid (HB3.out.trans (hb4.mono HB3.out.size))
  have HD4 := Lib.hid ((hb4.block w2.heap.size (lt_of_block HD3.out)).trans HD3.out)
  clear hb4
  rcases hn with hf | ⟨hf, hd⟩
  · rw [hf] at HF
    clear hf
    go_wp2_with fail
    refine (HF.out _ (h.below (HB4.out.mono hB))).mono ?_
    rintro e _ ⟨rfl, rfl⟩
    go_wp2_with fail
    refine (awake_any _ (hc0.below HB4.out hc0.pos)).mono ?_
    rintro e w5 ⟨rfl, hb5⟩
    have HB5 := Lib.hid (HB4.out.trans (hb5.mono HB4.out.size))
    clear hb5
    go_wp2_with fail
    go_ret
    exact ⟨rfl, HB5.out⟩
  · rw [hf] at HF
    rw [hd] at HV
    clear hf hd
    have dl4 := loadDs_at HD4.out rfl
    go_wp2_with fail
    refine (HF.out _ (h.below (HB4.out.mono hB))).mono ?_
    rintro e _ ⟨rfl, rfl⟩
    go_wp2_with fail
    refine (HV.out _).mono ?_
    rintro e w5 ⟨rfl, hb5⟩
    have HB5 := Lib.hid (HB4.out.trans (hb5.mono HB4.out.size))
    clear hb5 dl4
    go_wp2_with fail
    refine (awake_any _ (hc0.below HB5.out hc0.pos)).mono ?_
    rintro e w6 ⟨rfl, hb6⟩
    have HB6 := Lib.hid (HB5.out.trans (hb6.mono HB5.out.size))
    clear hb6
    go_wp2_with fail
    go_ret
    exact ⟨rfl, HB6.out⟩

set_option maxRecDepth 100000 in
set_option maxHeartbeats 8000000 in
theorem grows_yes (fmt : Int) (len blk : Nat) (w : World) (B : Nat) (v : Value) (L : List (List By)) (h : Grp w B v L) (hB : B ≤ w.heap.size) (hL : L.length ≤ 9223372036854775807) (hc0 : Codes w) (hf : fewG L = true) (hd : dsV 0 fmt len blk = true) :
    Calls Tryd.prog 6 #[.agg #[.int .i64 0, .int .i64 fmt, .int .i64 len, .int .i64 blk], v] w fun e w' => e = .returned (.bool true) ∧ Below w.heap.size w w' := by
  have HB0 := Lib.hid (box_below w #[.int .i64 0, .int .i64 fmt, .int .i64 len, .int .i64 blk] 23)
  have HX0 := Lib.hid (heap_alloc_new w (.cells #[.int .i64 0, .int .i64 fmt, .int .i64 len, .int .i64 blk] 23))
  have HF := Lib.hid (fun W h' => fewg_any W B v L h' hL)
  have HV := Lib.hid (fun W => valid_any 0 fmt len blk W)
  have HGW := Lib.hid (fun W b1 b2 b3 => grow_any W B fmt len blk v L b1 b2 hd hf b3)
  obtain ⟨hG6, hGok⟩ := groups_ok (fmt := fmt) (len := len) hf
  have hLG : (groupsV fmt len L).length = L.length := by unfold groupsV; rw [List.length_map]
  have hLn : L.length ≤ 6 := by omega
  obtain ⟨hRl, hRok⟩ := groups_flat (groupsV fmt len L) hGok
  have hR36 : (groupsV fmt len L).flatten.length ≤ 36 := by omega
  have hS := stream_small hd _ hRok.alw hRok.sml hR36
  rw [hf] at HF
  rw [hd] at HV
  have HD := Lib.hid hd
  generalize (groupsV fmt len L).flatten = R at *
  clear hG6 hGok hLG hRl hf hd
  have n1 := sec_le (S := streamOf (packV fmt len blk R)) (k := 297) (by omega)
  have H1 := Lib.hid (show (dsv 0 fmt len blk).all (·.oneCell') = true by simp [dsv, Value.oneCell'])
  have hsz : (dsv 0 fmt len blk).size = 21 := rfl
  have HSZ := Lib.hid hsz
  clear hsz
  have x0 := cell_at (i := 0) (v := .int .i64 0) HX0.out rfl
  have x1 := cell_at (i := 1) (v := .int .i64 fmt) HX0.out rfl
  have x2 := cell_at (i := 2) (v := .int .i64 len) HX0.out rfl
  have x3 := cell_at (i := 3) (v := .int .i64 blk) HX0.out rfl
  go_enter Tryd.func6, Tryd.ntmps6
  go_wp2_with fail
  refine (set_any _ _ _ _ _).mono ?_
  rintro e w2 ⟨rfl, hb2⟩
  have HB2 := Lib.hid (HB0.out.trans (hb2.mono HB0.out.size))
  clear hb2 x0 x1 x2 x3 HX0
  obtain ⟨W3, hW3⟩ : ∃ W3, W3 = (w2.alloc (.cells dsz 28)).setRow w2.heap.size (dsv 0 fmt len blk) := ⟨_, rfl⟩
  have hd3 : W3.heap[w2.heap.size]? = some (.cells (dsv 0 fmt len blk) 28 (0, 0)) := by rw [hW3]; exact setRow_heap _ _ _ _ _ _ (heap_alloc_new _ _)
  have HB3 := Lib.hid (show Below w.heap.size w W3 by rw [hW3]; exact Below.setRow (HB2.out.alloc HB2.out.size _) HB2.out.size _)
  have HD3 := Lib.hid hd3
  have HW3 := Lib.hid hW3
  clear hd3 hW3
  go_wp2_with (
    refine wpList_store_rowTo rfl _ _ _ rfl rfl w2.heap.size (dsv 0 fmt len blk) rfl rfl 28 dsz (heap_alloc_new _ _) (by rw [info_ds, HSZ.out]) (by rw [HSZ.out]; rfl) H1.out ?_
    rw [← HW3.out])
  refine (awake_any _ (hc0.below HB3.out hc0.pos)).mono ?_
  rintro e w4 ⟨rfl, hb4⟩
  have HB4 := Lib.hid (HB3.out.trans (hb4.mono HB3.out.size))
  have HD4 := Lib.hid ((hb4.block w2.heap.size (lt_of_block HD3.out)).trans HD3.out)
  clear hb4
  have dl4 := loadDs_at HD4.out rfl
  go_wp2_with fail
  refine (HF.out _ (h.below (HB4.out.mono hB))).mono ?_
  rintro e _ ⟨rfl, rfl⟩
  go_wp2_with fail
  refine (HV.out _).mono ?_
  rintro e w5 ⟨rfl, hb5⟩
  have HB5 := Lib.hid (HB4.out.trans (hb5.mono HB4.out.size))
  have HD5 := Lib.hid ((hb5.block w2.heap.size (lt_of_block HD4.out)).trans HD4.out)
  clear hb5 dl4
  have dl5 := loadDs_at HD5.out rfl
  go_wp2_with fail
  refine (HGW.out _ (h.below (HB5.out.mono hB)) (Nat.le_trans hB HB5.out.size) (hc0.below HB5.out hc0.pos)).mono ?_
  rintro e w6 ⟨lv, av, rfl, hlo, hao, hb6⟩
  have HB6 := Lib.hid (HB5.out.trans (hb6.mono HB5.out.size))
  have HD6 := Lib.hid ((hb6.block w2.heap.size (lt_of_block HD5.out)).trans HD5.out)
  have HLO := Lib.hid hlo
  obtain ⟨ga, gcap, rfl, _⟩ := h.at_
  obtain ⟨la, lc, rfl, hls, hlc, hlc2⟩ := row_all hlo
  obtain ⟨aa, ac, rfl, has, hac, hac2⟩ := row_all hao
  have HLS := Lib.hid hls
  have HAS := Lib.hid has
  clear hb6 dl5 hlo hao hls has
  have dl6 := loadDs_at HD6.out rfl
  have hread := readV_secs HD.out L.length R hRok.alw (by omega) (by omega) (by omega)
  have hopen : openV 0 fmt len blk (secR fmt len blk L.length R) = .ok ⟨L.length, R, packV fmt len blk R, streamOf (packV fmt len blk R)⟩ := by
    unfold openV
    rw [if_pos HD.out]
    simp only [Int.toNat_natCast]
    exact hread
  have hhd := (readV_ok HD.out hread).hd
  simp only at hhd
  have hpe : secsOf L.length R.length (streamOf (packV fmt len blk R)) = secR fmt len blk L.length R := rfl
  rw [hpe] at hhd
  have hll : (secR fmt len blk L.length R).length = 1 + ((streamOf (packV fmt len blk R)).length + 127) / 128 := by
    rw [← sec_count]; unfold secR secsOf; rw [List.length_cons]; omega
  have HRC := Lib.hid (fun W b1 b2 => records_any 0 fmt len blk W w6.heap.size la lc (secR fmt len blk L.length R) (HLS.out.below b1) b1.size (by omega) b2)
  have HHD := Lib.hid (fun W (b1 : Below w6.heap.size w6 W) => head_read W w6.heap.size la lc (secR fmt len blk L.length R) (HLS.out.below b1))
  rw [hopen] at HRC
  rw [hhd] at HHD
  simp only [recsT] at HRC HHD
  clear hread hopen hhd hpe n1
  generalize secR fmt len blk L.length R = lR at *
  generalize (streamOf (packV fmt len blk R)).length = SL at *
  have HLL := Lib.hid hll
  have hl3 : lR.length ≤ 1000 := by omega
  clear hll
  go_wp2_with fail
  refine (HRC.out _ (Below.refl _ _) (hc0.below HB6.out hc0.pos)).mono ?_
  rintro e w7 hP
  have HB67 := Lib.hid hP.bel
  have HB7 := Lib.hid (HB6.out.trans (hP.bel.mono HB6.out.size))
  obtain ⟨v7, k, rfl, hk⟩ := hP.any
  clear hP dl6
  rcases hk with ⟨R', hR', rfl, ho7⟩ | ⟨hk, _⟩
  rotate_left
  · cases hk
  obtain rfl := Except.ok.inj hR'
  obtain ⟨ra, rc, rfl, hrs, _, _⟩ := row_all ho7
  have HRS := Lib.hid hrs
  clear hR' ho7 hrs
  go_wp2_with fail
  refine (HHD.out _ HB67.out).mono ?_
  rintro e w8 ⟨rfl, hb8⟩
  have HB8 := Lib.hid (HB7.out.trans (hb8.mono HB7.out.size))
  have HSM := Lib.hid (rsame_any w8 w7.heap.size w6.heap.size ra aa rc ac R R (HRS.out.below hb8) ((HAS.out.below HB67.out).below (hb8.mono HB67.out.size)) (by omega) (by omega))
  rw [show decide (R = R) = true by simp] at HSM
  clear hb8
  have hl4 := HLL.out
  have q1 : IntKind.i64.wrap ((SL : Int) + 127) = (SL : Int) + 127 := IntWalk.i64_in _ (by omega)
  have q2 : ((SL : Int) + 127).tdiv 128 = (lR.length : Int) - 1 := by rw [Int.tdiv_eq_ediv_of_nonneg (by omega)]; omega
  have q3 : IntKind.i64.wrap ((lR.length : Int) - 1) = (lR.length : Int) - 1 := IntWalk.i64_in _ (by omega)
  clear hl4
  go_wp2_with fail
  refine HSM.out.mono ?_
  rintro e w9 ⟨rfl, hb9⟩
  have HB9 := Lib.hid (HB8.out.trans (hb9.mono HB8.out.size))
  clear hb9
  go_wp2_with fail
  go_ret
  exact ⟨rfl, HB9.out⟩

theorem grows_any2 (org fmt len blk : Int) (w : World) (B : Nat) (v : Value) (L : List (List By)) (h : Grp w B v L) (hB : B ≤ w.heap.size) (hL : L.length ≤ 9223372036854775807) (hc0 : Codes w) :
    Calls Tryd.prog 6 #[.agg #[.int .i64 org, .int .i64 fmt, .int .i64 len, .int .i64 blk], v] w fun e w' => e = .returned (.bool true) ∧ Below w.heap.size w w' := by
  cases hf : fewG L
  · exact grows_not org fmt len blk w B v L h hB hL hc0 (Or.inl hf)
  · cases hd : dsV org fmt len blk
    · exact grows_not org fmt len blk w B v L h hB hL hc0 (Or.inr ⟨hf, hd⟩)
    · obtain ⟨rfl, h1, h2⟩ := ds_pos hd
      obtain ⟨len', rfl⟩ := Int.eq_ofNat_of_zero_le h1
      obtain ⟨blk', rfl⟩ := Int.eq_ofNat_of_zero_le h2
      exact grows_yes fmt len' blk' w B v L h hB hL hc0 hf hd

end Go.Proofs.YthkpcalopmddpaaDoor

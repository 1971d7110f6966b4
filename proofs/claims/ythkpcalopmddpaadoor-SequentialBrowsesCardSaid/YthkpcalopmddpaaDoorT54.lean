/-
  Walks: the law SequentialBrowses. Conditions: the groups lie in memory as a slice of slices; the table of codes is laid.
-/
import Derived.Test.YthkpcalopmddpaaDoorT53
import Derived.Test.YthkpcalopmddpaaDoorT47
import Derived.Test.YthkpcalopmddpaaDoorGJ
namespace Go.Proofs.YthkpcalopmddpaaDoor
open Go.RowKit Go.Sort
attribute [local go_sem ↓] loadDs_down
attribute [local go_sem] str_gtr str_leq

set_option maxRecDepth 100000 in
set_option maxHeartbeats 4000000 in
theorem br_not (org fmt len blk : Int) (w : World) (B : Nat) (v : Value) (L : List (List By)) (m : By) (h : Grp w B v L) (hB : B ≤ w.heap.size) (hL : L.length ≤ 9223372036854775807) (hc0 : Codes w) (hm : m.length ≤ 9223372036854775807) (hn : fewG L = false ∨ (fewG L = true ∧ 1000 < m.length) ∨ (fewG L = true ∧ m.length ≤ 1000 ∧ dsV org fmt len blk = false)) :
    Calls Tryd.prog 7 #[.agg #[.int .i64 org, .int .i64 fmt, .int .i64 len, .int .i64 blk], v, .string ⟨m.toArray⟩] w fun e w' => e = .returned (.bool true) ∧ Below w.heap.size w w' := by
  have HB0 := Lib.hid (box_below w #[.int .i64 org, .int .i64 fmt, .int .i64 len, .int .i64 blk] 23)
  have HX0 := Lib.hid (heap_alloc_new w (.cells #[.int .i64 org, .int .i64 fmt, .int .i64 len, .int .i64 blk] 23))
  have HF := Lib.hid (fun W h' => fewg_any W B v L h' hL)
  have HV := Lib.hid (fun W => valid_any org fmt len blk W)
  have H1 := Lib.hid (show (dsv org fmt len blk).all (·.oneCell') = true by simp [dsv, Value.oneCell'])
  have hsz : (dsv org fmt len blk).size = 21 := rfl
  have HSZ := Lib.hid hsz
  clear hsz
  have x0 := cell_at (i := 0) (v := .int .i64 org) HX0.out rfl
  have x1 := cell_at (i := 1) (v := .int .i64 fmt) HX0.out rfl
  have x2 := cell_at (i := 2) (v := .int .i64 len) HX0.out rfl
  have x3 := cell_at (i := 3) (v := .int .i64 blk) HX0.out rfl
  go_enter Tryd.func7, Tryd.ntmps7
  go_wp2_with fail
  refine (set_any _ _ _ _ _).mono ?_
  rintro e w2 ⟨rfl, hb2⟩
  have HB2 := Lib.hid (HB0.out.trans (hb2.mono HB0.out.size))
  clear hb2 x0 x1 x2 x3 HX0
  obtain ⟨W3, hW3⟩ : ∃ W3, W3 = (w2.alloc (.cells dsz 28)).setRow w2.heap.size (dsv org fmt len blk) := ⟨_, rfl⟩
  have hd3 : W3.heap[w2.heap.size]? = some (.cells (dsv org fmt len blk) 28 (0, 0)) := by rw [hW3]; exact setRow_heap _ _ _ _ _ _ (heap_alloc_new _ _)
  have HB3 := Lib.hid (show Below w.heap.size w W3 by rw [hW3]; exact Below.setRow (HB2.out.alloc HB2.out.size _) HB2.out.size _)
  have HD3 := Lib.hid hd3
  have HW3 := Lib.hid hW3
  clear hd3 hW3
  go_wp2_with (
    refine wpList_store_rowTo rfl _ _ _ rfl rfl w2.heap.size (dsv org fmt len blk) rfl rfl 28 dsz (heap_alloc_new _ _) (by rw [info_ds, HSZ.out]) (by rw [HSZ.out]; rfl) H1.out ?_
    rw [← HW3.out])
  refine (awake_any _ (hc0.below HB3.out hc0.pos)).mono ?_
  rintro e w4 ⟨rfl, hb4⟩
  have HB4 := Lib.hid (HB3.out.trans (hb4.mono HB3.out.size))
  have HD4 := Lib.hid ((hb4.block w2.heap.size (lt_of_block HD3.out)).trans HD3.out)
  clear hb4
  rcases hn with hf | ⟨hf, hm2⟩ | ⟨hf, hm2, hd⟩
  · rw [hf] at HF
    clear hf
    go_wp2_with fail
    refine (HF.out _ (h.below (HB4.out.mono hB))).mono ?_
    rintro e _ ⟨rfl, rfl⟩
    go_wp2_with fail
    refine (awake_any _ (hc0.below HB4.out hc0.pos)).mono ?_
    rintro e w5 ⟨rfl, hb5⟩
    have HB5 := Lib.hid (HB4.out.trans (hb5.mono HB4.out.size))
    clear hb5
    go_wp2_with fail
    go_ret
    exact ⟨rfl, HB5.out⟩
  · rw [hf] at HF
    clear hf
    have hmI : (1000 : Int) < (m.length : Int) := by omega
    go_wp2_with fail
    refine (HF.out _ (h.below (HB4.out.mono hB))).mono ?_
    rintro e _ ⟨rfl, rfl⟩
    go_wp2_with fail
    refine (awake_any _ (hc0.below HB4.out hc0.pos)).mono ?_
    rintro e w5 ⟨rfl, hb5⟩
    have HB5 := Lib.hid (HB4.out.trans (hb5.mono HB4.out.size))
    clear hb5
    go_wp2_with fail
    go_ret
    exact ⟨rfl, HB5.out⟩
  · rw [hf] at HF
    rw [hd] at HV
    clear hf hd
    have hmI : ¬ (1000 : Int) < (m.length : Int) := by omega
    have dl4 := loadDs_at HD4.out rfl
    go_wp2_with fail
    refine (HF.out _ (h.below (HB4.out.mono hB))).mono ?_
    rintro e _ ⟨rfl, rfl⟩
    go_wp2_with fail
    refine (HV.out _).mono ?_
    rintro e w5 ⟨rfl, hb5⟩
    have HB5 := Lib.hid (HB4.out.trans (hb5.mono HB4.out.size))
    clear hb5 dl4
    go_wp2_with fail
    refine (awake_any _ (hc0.below HB5.out hc0.pos)).mono ?_
    rintro e w6 ⟨rfl, hb6⟩
    have HB6 := Lib.hid (HB5.out.trans (hb6.mono HB5.out.size))
    clear hb6
    go_wp2_with fail
    go_ret
    exact ⟨rfl, HB6.out⟩

set_option maxRecDepth 100000 in
set_option maxHeartbeats 8000000 in
theorem br_yes (fmt : Int) (len blk : Nat) (w : World) (B : Nat) (v : Value) (L : List (List By)) (m : By) (h : Grp w B v L) (hB : B ≤ w.heap.size) (hL : L.length ≤ 9223372036854775807) (hc0 : Codes w) (hf : fewG L = true) (hd : dsV 0 fmt len blk = true) (hm : m.length ≤ 1000) :
    Calls Tryd.prog 7 #[.agg #[.int .i64 0, .int .i64 fmt, .int .i64 len, .int .i64 blk], v, .string ⟨m.toArray⟩] w fun e w' => e = .returned (.bool true) ∧ Below w.heap.size w w' := by
  have HB0 := Lib.hid (box_below w #[.int .i64 0, .int .i64 fmt, .int .i64 len, .int .i64 blk] 23)
  have HX0 := Lib.hid (heap_alloc_new w (.cells #[.int .i64 0, .int .i64 fmt, .int .i64 len, .int .i64 blk] 23))
  have HF := Lib.hid (fun W h' => fewg_any W B v L h' hL)
  have HV := Lib.hid (fun W => valid_any 0 fmt len blk W)
  have HGW := Lib.hid (fun W b1 b2 b3 => grow_any W B fmt len blk v L b1 b2 hd hf b3)
  obtain ⟨hG6, hGok⟩ := groups_ok (fmt := fmt) (len := len) hf
  have hLG : (groupsV fmt len L).length = L.length := by unfold groupsV; rw [List.length_map]
  have hLn : L.length ≤ 6 := by omega
  obtain ⟨hRl, hRok⟩ := groups_flat (groupsV fmt len L) hGok
  have hR36 : (groupsV fmt len L).flatten.length ≤ 36 := by omega
  have hS := stream_small hd _ hRok.alw hRok.sml hR36
  rw [hf] at HF
  rw [hd] at HV
  have HD := Lib.hid hd
  generalize (groupsV fmt len L).flatten = R at *
  clear hG6 hGok hLG hRl hf hd
  have n1 := sec_le (S := streamOf (packV fmt len blk R)) (k := 297) (by omega)
  have hmI : ¬ (1000 : Int) < (m.length : Int) := by omega
  have hlen : len ≤ 1000 := by
    rcases ds_parts HD.out with ⟨rfl, hv⟩ | ⟨rfl, hv⟩ | ⟨rfl, hv⟩
    · simp [fixV] at hv; omega
    · simp [varV] at hv; omega
    · simp [spnV] at hv; omega
  have H1 := Lib.hid (show (dsv 0 fmt len blk).all (·.oneCell') = true by simp [dsv, Value.oneCell'])
  have hsz : (dsv 0 fmt len blk).size = 21 := rfl
  have HSZ := Lib.hid hsz
  clear hsz
  have x0 := cell_at (i := 0) (v := .int .i64 0) HX0.out rfl
  have x1 := cell_at (i := 1) (v := .int .i64 fmt) HX0.out rfl
  have x2 := cell_at (i := 2) (v := .int .i64 len) HX0.out rfl
  have x3 := cell_at (i := 3) (v := .int .i64 blk) HX0.out rfl
  go_enter Tryd.func7, Tryd.ntmps7
  go_wp2_with fail
  refine (set_any _ _ _ _ _).mono ?_
  rintro e w2 ⟨rfl, hb2⟩
  have HB2 := Lib.hid (HB0.out.trans (hb2.mono HB0.out.size))
  clear hb2 x0 x1 x2 x3 HX0
  obtain ⟨W3, hW3⟩ : ∃ W3, W3 = (w2.alloc (.cells dsz 28)).setRow w2.heap.size (dsv 0 fmt len blk) := ⟨_, rfl⟩
  have hd3 : W3.heap[w2.heap.size]? = some (.cells (dsv 0 fmt len blk) 28 (0, 0)) := by rw [hW3]; exact setRow_heap _ _ _ _ _ _ (heap_alloc_new _ _)
  have HB3 := Lib.hid (show Below w.heap.size w W3 by rw [hW3]; exact Below.setRow (HB2.out.alloc HB2.out.size _) HB2.out.size _)
  have HD3 := Lib.hid hd3
  have HW3 := Lib.hid hW3
  clear hd3 hW3
  go_wp2_with (
    refine wpList_store_rowTo rfl _ _ _ rfl rfl w2.heap.size (dsv 0 fmt len blk) rfl rfl 28 dsz (heap_alloc_new _ _) (by rw [info_ds, HSZ.out]) (by rw [HSZ.out]; rfl) H1.out ?_
    rw [← HW3.out])
  refine (awake_any _ (hc0.below HB3.out hc0.pos)).mono ?_
  rintro e w4 ⟨rfl, hb4⟩
  have HB4 := Lib.hid (HB3.out.trans (hb4.mono HB3.out.size))
  have HD4 := Lib.hid ((hb4.block w2.heap.size (lt_of_block HD3.out)).trans HD3.out)
  clear hb4
  have dl4 := loadDs_at HD4.out rfl
  go_wp2_with fail
  refine (HF.out _ (h.below (HB4.out.mono hB))).mono ?_
  rintro e _ ⟨rfl, rfl⟩
  go_wp2_with fail
  refine (HV.out _).mono ?_
  rintro e w5 ⟨rfl, hb5⟩
  have HB5 := Lib.hid (HB4.out.trans (hb5.mono HB4.out.size))
  have HD5 := Lib.hid ((hb5.block w2.heap.size (lt_of_block HD4.out)).trans HD4.out)
  clear hb5 dl4
  have dl5 := loadDs_at HD5.out rfl
  go_wp2_with fail
  refine (HGW.out _ (h.below (HB5.out.mono hB)) (Nat.le_trans hB HB5.out.size) (hc0.below HB5.out hc0.pos)).mono ?_
  rintro e w6 ⟨lv, av, rfl, hlo, hao, hb6⟩
  have HB6 := Lib.hid (HB5.out.trans (hb6.mono HB5.out.size))
  have HD6 := Lib.hid ((hb6.block w2.heap.size (lt_of_block HD5.out)).trans HD5.out)
  have HLO := Lib.hid hlo
  obtain ⟨ga, gcap, rfl, _⟩ := h.at_
  obtain ⟨la, lc, rfl, hls, hlc, hlc2⟩ := row_all hlo
  obtain ⟨aa, ac, rfl, has, hac, hac2⟩ := row_all hao
  have HLS := Lib.hid hls
  have HAS := Lib.hid has
  clear hb6 dl5 hlo hao hls has
  have dl6 := loadDs_at HD6.out rfl
  have hread := readV_secs HD.out L.length R hRok.alw (by omega) (by omega) (by omega)
  have hopen : openV 0 fmt len blk (secR fmt len blk L.length R) = .ok ⟨L.length, R, packV fmt len blk R, streamOf (packV fmt len blk R)⟩ := by
    unfold openV
    rw [if_pos HD.out]
    simp only [Int.toNat_natCast]
    exact hread
  have hll : (secR fmt len blk L.length R).length ≤ 300 := by unfold secR secsOf; rw [List.length_cons]; omega
  have hnx : ∀ j (hj : j < R.length), srchV (gtrB (keyJ j)) (openV 0 fmt len blk (secR fmt len blk L.length R)) = (plc (1 + j), R[j], 0) := fun j hj => by
    rw [hopen]; unfold srchV; simp only; rw [next_at R hR36 j hj]
  have hgt : ∀ j (hj : j < R.length), srchV (eqlB (plc (1 + j))) (openV 0 fmt len blk (secR fmt len blk L.length R)) = (plc (1 + j), R[j], 0) := fun j hj => by
    rw [hopen]; unfold srchV; simp only; rw [get_at R hR36 j hj]
  have hnn : srchV (gtrB (keyJ R.length)) (openV 0 fmt len blk (secR fmt len blk L.length R)) = ([], [], 6) := by
    rw [hopen]; unfold srchV; simp only; rw [next_none R hR36]
  obtain ⟨cm, hcm⟩ : ∃ cm, cm = cutG fmt len m := ⟨_, rfl⟩
  have hcl : cm.length ≤ 1000 := by
    rw [hcm]; unfold cutG; split <;> rw [List.length_take] <;> omega
  have hca : alwV fmt len [cm] = true := by
    rw [hcm]; unfold alwV
    rw [List.all_cons, List.all_nil, Bool.and_true]
    unfold okR cutG
    split
    · rw [decide_eq_true_iff, List.length_take, List.length_append, List.length_replicate]; omega
    · rw [decide_eq_true_iff, List.length_take]; omega
  obtain ⟨ws, hap, hw20, hbig⟩ := one_more (j := L.length) HD.out (by omega) hRok hR36 hca hcl
  have HNX := Lib.hid hnx
  have HGT := Lib.hid hgt
  have HNN := Lib.hid hnn
  have HAPW := Lib.hid hap
  have HBIG := Lib.hid hbig
  have HCM := Lib.hid hcm
  have HCA := Lib.hid hca
  have HNE := Lib.hid (fun (W : World) (b1 : Below w6.heap.size w6 W) (key : By) (b2 : Codes W) => next_any 0 fmt len blk W w6.heap.size la lc (secR fmt len blk L.length R) key (HLS.out.below b1) b1.size hll b2)
  have HGE := Lib.hid (fun (W : World) (b1 : Below w6.heap.size w6 W) (key : By) (b2 : Codes W) => get_any 0 fmt len blk W w6.heap.size la lc (secR fmt len blk L.length R) key (HLS.out.below b1) b1.size hll b2)
  have HAP := Lib.hid (fun (W : World) (b1 : Below w6.heap.size w6 W) (u : Value) (hu : Txt W W.heap.size u [cm]) (b2 : Codes W) => app_ok W W.heap.size la lc (secR fmt len blk L.length R) fmt len blk 99 u [cm] ((HLS.out.below b1).mono b1.size) hu (Nat.le_refl _) hll (by simp) HD.out (by decide) HCA.out HBIG.out b2)
  rw [HAPW.out] at HAP
  simp only at HAP
  rw [show ((99 : Nat) : Int) = 99 from rfl] at HAP
  have hs26 : w2.heap.size < w6.heap.size := lt_of_block HD6.out
  clear hread hopen hnx hgt hnn hap hbig hcm hca hRok hS n1 dl6
  generalize secR fmt len blk L.length R = lR at *
  go_wp2_with fail
  go_loopw [11, 55] (fun kv k wr => ∃ j : Nat, j ≤ R.length ∧ k = .int .i64 j ∧ kv = .string ⟨(keyJ j).toArray⟩ ∧ Below w6.heap.size w6 wr) (fun _ k _ => R.length - (intOf k).toNat)
  case atStart => exact ⟨0, by omega, rfl, rfl, Below.refl _ _⟩
  case round =>
    obtain ⟨j, hj, rfl, rfl, hb⟩ := hrel
    have HB := Lib.hid hb
    have HBW := Lib.hid (HB6.out.trans (hb.mono HB6.out.size))
    have hdr := (hb.block w2.heap.size hs26).trans HD6.out
    have HDR := Lib.hid hdr
    clear hdr
    have dlr := loadDs_at HDR.out rfl
    by_cases hlt : j < R.length
    · obtain ⟨b, off, rfl, _, hc⟩ := (HAS.out.below hb).get hlt
      have hN := HNX.out j hlt
      have hG := HGT.out j hlt
      have hg1 := gtr_key (i := 1 + j) (j := j) (by omega) (by omega) (by omega)
      rw [show decide (j < 1 + j) = true by rw [decide_eq_true_iff]; omega] at hg1
      have hpl := plc_len (1 + j)
      have hnk : keyJ (j + 1) = plc (1 + j) := by unfold keyJ; rw [if_neg (by omega), Nat.add_comm]
      have HNK := Lib.hid hnk
      have hNE := HNE.out wr hb (keyJ j) (hc0.below HBW.out hc0.pos)
      rw [hN] at hNE
      have hGE := fun W b1 b2 => HGE.out W b1 (plc (1 + j)) b2
      rw [hG] at hGE
      simp only at hNE hGE
      have HNE' := Lib.hid hNE
      have HGE' := Lib.hid hGE
      generalize plc (1 + j) = pk at *
      generalize keyJ j = kj at *
      generalize R[j] = r at *
      have hg2 : Op.bytesLess pk kj = false ∧ (pk == kj) = false := by
        unfold gtrB at hg1
        cases h1 : Op.bytesLess pk kj
        · cases h2 : (pk == kj)
          · exact ⟨rfl, rfl⟩
          · rw [h1, h2] at hg1; cases hg1
        · rw [h1] at hg1; cases hg1
      obtain ⟨hq1, hq2⟩ := hg2
      clear hN hG hNE hGE hnk hg1 hb
      go_wp2_with fail
      refine HNE'.out.mono ?_
      rintro e w7 ⟨rfl, hb7⟩
      have HB7 := Lib.hid (HB.out.trans (hb7.mono HB.out.size))
      have HBW7 := Lib.hid (HBW.out.trans (hb7.mono HBW.out.size))
      have HD7 := Lib.hid ((hb7.block w2.heap.size (lt_of_block HDR.out)).trans HDR.out)
      clear hb7 dlr
      have dl7 := loadDs_at HD7.out rfl
      go_wp2_with fail
      refine (HGE'.out _ HB7.out (hc0.below HBW7.out hc0.pos)).mono ?_
      rintro e w8 ⟨rfl, hb8⟩
      have HB8 := Lib.hid (HB7.out.trans (hb8.mono HB7.out.size))
      clear hb8 dl7
      go_wp2_with fail
      go_roundw
      case rel => exact ⟨j + 1, by omega, by go_num, by rw [HNK.out], HB8.out⟩
      case measure => simp [intOf]; omega
    · obtain rfl : j = R.length := by omega
      have hNE := HNE.out wr hb (keyJ R.length) (hc0.below HBW.out hc0.pos)
      rw [HNN.out] at hNE
      simp only at hNE
      have HNE' := Lib.hid hNE
      generalize keyJ R.length = kj at *
      clear hNE hb
      go_wp2_with fail
      refine HNE'.out.mono ?_
      rintro e w7 ⟨rfl, hb7⟩
      have HB7 := Lib.hid (HB.out.trans (hb7.mono HB.out.size))
      have HBW7 := Lib.hid (HBW.out.trans (hb7.mono HBW.out.size))
      have HD7 := Lib.hid ((hb7.block w2.heap.size (lt_of_block HDR.out)).trans HDR.out)
      clear hb7 dlr
      have dl7 : (loadDs ⟨w2.heap.size, 0, none⟩).run Tryd.prog w7.drew = .ok (.agg (dsv 0 fmt len blk)) w7.drew := loadDs_at (w := w7.drew) HD7.out rfl
      obtain ⟨Wb, hWb⟩ : ∃ Wb, Wb = ((w7.alloc (.cells #[.string ⟨m.toArray⟩] 9)).alloc (.cells #[.slice (some ⟨w7.heap.size, 0, none⟩) 1 1] 24)).drew := ⟨_, rfl⟩
      have hza : (w7.alloc (.cells #[.string ⟨m.toArray⟩] 9)).heap.size = w7.heap.size + 1 := by simp
      have hzb : Wb.heap.size = w7.heap.size + 2 := by
        rw [hWb]
        show ((w7.alloc (.cells #[.string ⟨m.toArray⟩] 9)).alloc (.cells #[.slice (some ⟨w7.heap.size, 0, none⟩) 1 1] 24)).heap.size = _
        simp
      have hba : Below w7.heap.size w7 (w7.alloc (.cells #[.string ⟨m.toArray⟩] 9)) := box_below w7 _ _
      have hbb : Below w7.heap.size w7 Wb := by rw [hWb]; exact below_drewN (hba.alloc (by rw [hza]; omega) _) 1
      have hgb : Wb.heap[w7.heap.size + 1]? = some (.cells #[.slice (some ⟨w7.heap.size, 0, none⟩) 1 1] 24 (0, 0)) := by
        rw [hWb]
        exact two_new w7 _ _ _ _
      have hgc : Wb.heap[w7.heap.size]? = some (.cells #[.string ⟨m.toArray⟩] 9 (0, 0)) := by
        rw [hWb]
        exact (halloc (w7.alloc (.cells #[.string ⟨m.toArray⟩] 9)) _ (by rw [hza]; omega)).trans (heap_alloc_new w7 _)
      have hgr : Grp Wb Wb.heap.size (.slice (some ⟨w7.heap.size + 1, 0, none⟩) 1 1) [[m]] :=
        ⟨_, 1, rfl, fun _ => ⟨w7.heap.size + 1, 0, rfl, by omega, fun i hi => by
          have hi0 : i = 0 := by simpa using hi
          subst hi0
          exact ⟨_, cell_at (i := 0) hgb rfl, ⟨_, 1, rfl, ⟨fun _ => ⟨w7.heap.size, 0, rfl, by omega, fun i hi => by
            have hi1 : i = 0 := by simpa using hi
            subst hi1
            exact cell_at (i := 0) hgc rfl⟩⟩, trivial, by simp, by omega⟩⟩⟩⟩
      have hgp := groups_any Wb Wb.heap.size fmt len blk _ [[m]] hgr (Nat.le_refl _) (by simp) (fun l hl => by
        rw [List.mem_singleton] at hl; subst hl
        exact ⟨by simp, fun s hs => by rw [List.mem_singleton] at hs; subst hs; omega⟩) (by omega)
      rw [show groupsV fmt len [[m]] = [[cm]] by rw [HCM.out]; rfl] at hgp
      have HGP := Lib.hid hgp
      have HBB := Lib.hid hbb
      have hs7 := lt_of_block HD7.out
      have dla : (loadDs ⟨w2.heap.size, 0, none⟩).run Tryd.prog (w7.alloc (.cells #[.string ⟨m.toArray⟩] 9)).drew = .ok (.agg (dsv 0 fmt len blk)) (w7.alloc (.cells #[.string ⟨m.toArray⟩] 9)).drew := loadDs_at (w := (w7.alloc (.cells #[.string ⟨m.toArray⟩] 9)).drew) ((hba.block w2.heap.size hs7).trans HD7.out) rfl
      have dlb := loadDs_at ((hbb.block w2.heap.size hs7).trans HD7.out) rfl
      have HWB := Lib.hid hWb
      rw [hWb] at dlb HGP
      clear hgp hgr hgc hgb hbb hba hzb hza hWb
      have hwI : (ws.length : Int) ≤ 20 := by omega
      go_wp2_with fail
      go_region_law
        (first
          | (go_simp
             (with_reducible refine (HAP.out w8 HB8.out u HU8.out HC8.out).mono ?_)
             rintro e w9 hP
             have HBF := Lib.hid (HBW8.out.trans (hP.bel.mono HBW8.out.size))
             have dld := loadDs_at ((hP.bel.block w2.heap.size (lt_of_block HD8.out)).trans HD8.out) rfl
             obtain ⟨v9, rfl, ho9⟩ := hP.out
             obtain ⟨a9, c9, rfl, _⟩ := wrs_of_row ho9
             clear hP ho9)
          | (go_simp
             (with_reducible refine HGP.out.mono ?_)
             rintro e w8 ⟨v8, us, rfl, ho8, hr8, hb8⟩
             rw [← HWB.out] at ho8 hr8 hb8
             have hb78 : Below w7.heap.size w7 w8 := HBB.out.trans (hb8.mono HBB.out.size)
             have HB8 := Lib.hid (HB7.out.trans (hb78.mono HB7.out.size))
             have HBW8 := Lib.hid (HBW7.out.trans (hb78.mono HBW7.out.size))
             have HC8 := Lib.hid (hc0.below HBW8.out hc0.pos)
             have HD8 := Lib.hid ((hb78.block w2.heap.size hs7).trans HD7.out)
             have dlc := loadDs_at HD8.out rfl
             obtain ⟨u, hus⟩ : ∃ u, us = [u] := List.length_eq_one_iff.1 hr8.1
             subst hus
             obtain ⟨g8, cp8, rfl, _, _, hc8⟩ := own_cells ho8 (i := 0) (by simp)
             simp only [List.getElem_cons_zero] at hc8
             have HU8 := Lib.hid (txt_of_row (hr8.2 0 u [cm] rfl rfl))
             clear ho8 hr8 hb8 hb78))
      all_goals
        go_wp2_with fail
        go_ret
        exact ⟨rfl, HBF.out⟩

theorem br_any (org fmt len blk : Int) (w : World) (B : Nat) (v : Value) (L : List (List By)) (m : By) (h : Grp w B v L) (hB : B ≤ w.heap.size) (hL : L.length ≤ 9223372036854775807) (hc0 : Codes w) (hm : m.length ≤ 9223372036854775807) :
    Calls Tryd.prog 7 #[.agg #[.int .i64 org, .int .i64 fmt, .int .i64 len, .int .i64 blk], v, .string ⟨m.toArray⟩] w fun e w' => e = .returned (.bool true) ∧ Below w.heap.size w w' := by
  cases hf : fewG L
  · exact br_not org fmt len blk w B v L m h hB hL hc0 hm (Or.inl hf)
  · by_cases hm2 : 1000 < m.length
    · exact br_not org fmt len blk w B v L m h hB hL hc0 hm (Or.inr (Or.inl ⟨hf, hm2⟩))
    · cases hd : dsV org fmt len blk
      · exact br_not org fmt len blk w B v L m h hB hL hc0 hm (Or.inr (Or.inr ⟨hf, by omega, hd⟩))
      · obtain ⟨rfl, h1, h2⟩ := ds_pos hd
        obtain ⟨len', rfl⟩ := Int.eq_ofNat_of_zero_le h1
        obtain ⟨blk', rfl⟩ := Int.eq_ofNat_of_zero_le h2
        exact br_yes fmt len' blk' w B v L m h hB hL hc0 hf hd (by omega)

end Go.Proofs.YthkpcalopmddpaaDoor

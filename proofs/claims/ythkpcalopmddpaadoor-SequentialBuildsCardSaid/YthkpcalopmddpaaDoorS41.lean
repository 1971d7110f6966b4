/-
  Walks: the law SequentialBuilds. Conditions: the records lie in memory as a slice; the table of codes is laid.
-/
import Derived.Test.YthkpcalopmddpaaDoorS20
import Derived.Test.YthkpcalopmddpaaDoorS24
import Derived.Test.YthkpcalopmddpaaDoorS39
namespace Go.Proofs.YthkpcalopmddpaaDoor
open Go.RowKit Go.Sort
attribute [local go_sem ↓] loadDs_down

theorem Wrs.below {w w' : World} {a : Option Addr} {l : List (Nat × By)} (h : Wrs w a l) (hb : Below w.heap.size w w') : Wrs w' a l :=
  ⟨fun hl => by
    obtain ⟨b, h1, h2⟩ := h.cells hl
    exact ⟨b, h1, fun i hi => ⟨(hb.cell (block_lt_of_cell (h2 i hi).1)).trans (h2 i hi).1, (hb.cell (block_lt_of_cell (h2 i hi).2)).trans (h2 i hi).2⟩⟩⟩
theorem buildRes_length (org fmt len blk n : Int) (l : List By) (hl : l.length ≤ 900) : (buildRes org fmt len blk n l).1.length ≤ 1000000001 := by
  unfold buildRes
  split
  · rename_i h
    split
    · rename_i ha
      obtain ⟨rfl, h1, h2⟩ := ds_pos h.1
      obtain ⟨len', rfl⟩ := Int.eq_ofNat_of_zero_le h1
      obtain ⟨blk', rfl⟩ := Int.eq_ofNat_of_zero_le h2
      have hb := (packV_bd fmt len' blk' l h.1 ha hl).all
      simp only [Int.toNat_natCast]
      generalize streamOf (packV fmt len' blk' l) = S at hb ⊢
      have := secA_le S.length S
      show ((0, _) :: wr1 1 (secA S.length S)).length ≤ _
      rw [List.length_cons, wr1_length]; omega
    · simp
  · simp
theorem few_len {l : List By} {n k : Nat} (h : fewV l n k = true) : l.length ≤ n := by
  unfold fewV at h; rw [Bool.and_eq_true] at h; simpa using h.2

set_option maxRecDepth 100000 in
set_option maxHeartbeats 4000000 in
theorem law_few (org fmt len blk n : Int) (w : World) (B : Nat) (a : Option Addr) (cap : Nat) (l : List By) (h : Strs w B a l) (hB : B ≤ w.heap.size) (hl : l.length ≤ 9223372036854775807) (hc0 : Codes w) (hf : fewV l 30 1100 = false) :
    Calls Tryd.prog 3 #[.agg #[.int .i64 org, .int .i64 fmt, .int .i64 len, .int .i64 blk], .int .i64 n, .slice a l.length cap] w fun e w' => e = .returned (.bool true) ∧ Below w.heap.size w w' := by
  have HB0 := Lib.hid (box_below w #[.int .i64 org, .int .i64 fmt, .int .i64 len, .int .i64 blk] 23)
  have HF := Lib.hid (fun W h' => few_any W B a cap l 30 1100 h' hl)
  rw [hf] at HF
  clear hf
  go_enter Tryd.func3, Tryd.ntmps3
  go_wp2_with fail
  refine (awake_any _ (hc0.below HB0.out hc0.pos)).mono ?_
  rintro e w1 ⟨rfl, hb1⟩
  have HB1 := Lib.hid (HB0.out.trans (hb1.mono HB0.out.size))
  clear hb1
  go_wp2_with fail
  refine (HF.out _ (h.below (HB1.out.mono hB))).mono ?_
  rintro e _ ⟨rfl, rfl⟩
  go_wp2_with fail
  refine (awake_any _ (hc0.below HB1.out hc0.pos)).mono ?_
  rintro e w2 ⟨rfl, hb2⟩
  have HB2 := Lib.hid (HB1.out.trans (hb2.mono HB1.out.size))
  clear hb2
  go_wp2_with fail
  go_ret
  exact ⟨rfl, HB2.out⟩

set_option maxRecDepth 100000 in
set_option maxHeartbeats 8000000 in
theorem law_all (org fmt len blk n : Int) (w : World) (B : Nat) (a : Option Addr) (cap : Nat) (l : List By) (h : Strs w B a l) (hB : B ≤ w.heap.size) (hcap : l.length ≤ cap) (hc63 : cap ≤ 9223372036854775807) (hc0 : Codes w) (hf : fewV l 30 1100 = true) :
    Calls Tryd.prog 3 #[.agg #[.int .i64 org, .int .i64 fmt, .int .i64 len, .int .i64 blk], .int .i64 n, .slice a l.length cap] w fun e w' => e = .returned (.bool true) ∧ Below w.heap.size w w' := by
  have hl := few_len hf
  have HB0 := Lib.hid (box_below w #[.int .i64 org, .int .i64 fmt, .int .i64 len, .int .i64 blk] 23)
  have HF := Lib.hid (fun W h' => few_any W B a cap l 30 1100 h' (by omega))
  rw [hf] at HF
  clear hf
  have HFM := Lib.hid (fun W hc => format_any org fmt len blk n W hc)
  have HFR := Lib.hid (fun W => rformat_any org fmt len blk n W)
  have HBD := Lib.hid (fun W h1 h2 h3 => build_any org fmt len blk n W B a cap l h1 h2 (by omega) hcap hc63 h3)
  have HBR := Lib.hid (fun W h1 h2 => rbuild_any org fmt len blk n W B a cap l h1 h2 (by omega))
  have HL1 := buildRes_length org fmt len blk n [] (by simp)
  have HL2 := buildRes_length org fmt len blk n l (by omega)
  generalize buildRes org fmt len blk n [] = R1 at HFM HFR HL1
  generalize buildRes org fmt len blk n l = R2 at HBD HBR HL2
  obtain ⟨ws1, k1⟩ := R1
  obtain ⟨ws2, k2⟩ := R2
  simp only at HL1 HL2 HFM HFR HBD HBR
  have HV := Lib.hid (fun W => valid_any org fmt len blk W)
  have HVR := Lib.hid (fun W => rvalid_any org fmt len blk W)
  generalize dsV org fmt len blk = q at HV HVR
  have H1 := Lib.hid (show (dsv org fmt len blk).all (·.oneCell') = true by simp [dsv, Value.oneCell'])
  have hsz : (dsv org fmt len blk).size = 21 := rfl
  have HSZ := Lib.hid hsz
  clear hsz
  go_enter Tryd.func3, Tryd.ntmps3
  go_wp2_with fail
  refine (awake_any _ (hc0.below HB0.out hc0.pos)).mono ?_
  rintro e w1 ⟨rfl, hb1⟩
  have HB1 := Lib.hid (HB0.out.trans (hb1.mono HB0.out.size))
  have HX1 := Lib.hid ((hb1.block w.heap.size (by simp)).trans (heap_alloc_new w (.cells #[.int .i64 org, .int .i64 fmt, .int .i64 len, .int .i64 blk] 23)))
  clear hb1
  go_wp2_with fail
  refine (HF.out _ (h.below (HB1.out.mono hB))).mono ?_
  rintro e _ ⟨rfl, rfl⟩
  have x0 := cell_at (i := 0) (v := .int .i64 org) HX1.out rfl
  have x1 := cell_at (i := 1) (v := .int .i64 fmt) HX1.out rfl
  have x2 := cell_at (i := 2) (v := .int .i64 len) HX1.out rfl
  have x3 := cell_at (i := 3) (v := .int .i64 blk) HX1.out rfl
  go_wp2_with fail
  refine (set_any _ _ _ _ _).mono ?_
  rintro e w2 ⟨rfl, hb2⟩
  have HB2 := Lib.hid (HB1.out.trans (hb2.mono HB1.out.size))
  clear hb2 x0 x1 x2 x3 HX1
  obtain ⟨W3, hW3⟩ : ∃ W3, W3 = (w2.alloc (.cells dsz 28)).setRow w2.heap.size (dsv org fmt len blk) := ⟨_, rfl⟩
  have hd3 : W3.heap[w2.heap.size]? = some (.cells (dsv org fmt len blk) 28 (0, 0)) := by rw [hW3]; exact setRow_heap _ _ _ _ _ _ (heap_alloc_new _ _)
  have HB3 := Lib.hid (show Below w.heap.size w W3 by rw [hW3]; exact Below.setRow (HB2.out.alloc HB2.out.size _) HB2.out.size _)
  have HD3 := Lib.hid hd3
  have HW3 := Lib.hid hW3
  clear hd3 hW3
  have dl3 := loadDs_at HD3.out rfl
  go_wp2_with (
    refine wpList_store_rowTo rfl _ _ _ rfl rfl w2.heap.size (dsv org fmt len blk) rfl rfl 28 dsz (heap_alloc_new _ _) (by rw [info_ds, HSZ.out]) (by rw [HSZ.out]; rfl) H1.out ?_
    rw [← HW3.out])
  refine (HFM.out _ (hc0.below HB3.out hc0.pos)).mono ?_
  rintro e w4 hP
  obtain ⟨v4, rfl, ho4⟩ := hP.out
  obtain ⟨a4, c4, rfl, hS4⟩ := wrs_of_row ho4
  have HB4 := Lib.hid (HB3.out.trans (hP.bel.mono HB3.out.size))
  have HD4 := Lib.hid ((hP.bel.block w2.heap.size (lt_of_block HD3.out)).trans HD3.out)
  clear hP ho4 dl3
  have HS4 := Lib.hid hS4
  clear hS4
  have dl4 := loadDs_at HD4.out rfl
  go_wp2_with fail
  refine (HFR.out _).mono ?_
  rintro e w5 hP
  obtain ⟨v5, rfl, ho5⟩ := hP.out
  obtain ⟨a5, c5, rfl, hS5⟩ := wrs_of_row ho5
  have HB5 := Lib.hid (HB4.out.trans (hP.bel.mono HB4.out.size))
  have HS45 := Lib.hid (HS4.out.below hP.bel)
  have HD5 := Lib.hid ((hP.bel.block w2.heap.size (lt_of_block HD4.out)).trans HD4.out)
  have HS5 := Lib.hid hS5
  clear hP ho5 dl4 hS5
  have dl5 := loadDs_at HD5.out rfl
  go_wp2_with fail
  refine (HBD.out _ (h.below (HB5.out.mono hB)) (Nat.le_trans hB HB5.out.size) (hc0.below HB5.out hc0.pos)).mono ?_
  rintro e w6 hP
  obtain ⟨v6, rfl, ho6⟩ := hP.out
  obtain ⟨a6, c6, rfl, hS6⟩ := wrs_of_row ho6
  have HB6 := Lib.hid (HB5.out.trans (hP.bel.mono HB5.out.size))
  have HS46 := Lib.hid (HS45.out.below hP.bel)
  have HS56 := Lib.hid (HS5.out.below hP.bel)
  have HD6 := Lib.hid ((hP.bel.block w2.heap.size (lt_of_block HD5.out)).trans HD5.out)
  have HS6 := Lib.hid hS6
  clear hP ho6 dl5 hS6
  have dl6 := loadDs_at HD6.out rfl
  go_wp2_with fail
  refine (HBR.out _ (h.below (HB6.out.mono hB)) (Nat.le_trans hB HB6.out.size)).mono ?_
  rintro e w7 hP
  obtain ⟨v7, rfl, ho7⟩ := hP.out
  obtain ⟨a7, c7, rfl, hS7⟩ := wrs_of_row ho7
  have HB7 := Lib.hid (HB6.out.trans (hP.bel.mono HB6.out.size))
  have HS47 := Lib.hid (HS46.out.below hP.bel)
  have HS57 := Lib.hid (HS56.out.below hP.bel)
  have HS67 := Lib.hid (HS6.out.below hP.bel)
  have HD7 := Lib.hid ((hP.bel.block w2.heap.size (lt_of_block HD6.out)).trans HD6.out)
  have HS7 := Lib.hid hS7
  clear hP ho7 dl6 hS7
  have dl7 := loadDs_at HD7.out rfl
  have dl7d : (loadDs ⟨w2.heap.size, 0, none⟩).run Tryd.prog w7.drew = .ok (.agg (dsv org fmt len blk)) w7.drew := loadDs_at (w := w7.drew) HD7.out rfl
  have hbc : Below w7.heap.size w7 w7.drew := below_drew1
  have HSA := Lib.hid (fun (W : World) (hb : Below w7.heap.size w7 W) => same_any W a4 a5 c4 c5 ws1 ws1 (HS47.out.below hb) (HS57.out.below hb) (by omega) (by omega))
  have HSB := Lib.hid (fun (W : World) (hb : Below w7.heap.size w7 W) => same_any W a6 a7 c6 c7 ws2 ws2 (HS67.out.below hb) (HS7.out.below hb) (by omega) (by omega))
  rw [show decide (ws1 = ws1) = true by simp] at HSA
  rw [show decide (ws2 = ws2) = true by simp] at HSB
  go_wp2_with fail
  go_region_held3 (fun w' => (loadDs ⟨w2.heap.size, 0, none⟩).run Tryd.prog w' = .ok (.agg (dsv org fmt len blk)) w') (first | assumption)
    ((first
      | (go_at_call 15
         (with_reducible refine (HV.out _).mono ?_)
         rintro e wx ⟨rfl, hx⟩
         have hbc := hbc.trans (hx.mono hbc.size)
         have dlx := loadDs_at ((hbc.block w2.heap.size (lt_of_block HD7.out)).trans HD7.out) rfl)
      | (go_at_call 16
         (with_reducible refine (HVR.out _).mono ?_)
         rintro e wy ⟨rfl, hy⟩
         have hbc := hbc.trans (hy.mono hbc.size)
         have dly := loadDs_at ((hbc.block w2.heap.size (lt_of_block HD7.out)).trans HD7.out) rfl)
      | (go_at_call 17
         (with_reducible refine (HSA.out _ (by assumption)).mono ?_)
         rintro e wz ⟨rfl, hz⟩
         have hbc := hbc.trans (hz.mono hbc.size)
         have dlz := loadDs_at ((hbc.block w2.heap.size (lt_of_block HD7.out)).trans HD7.out) rfl)
      | (go_at_call 17
         (with_reducible refine (HSB.out _ (by assumption)).mono ?_)
         rintro e wz ⟨rfl, hz⟩
         have hbc := hbc.trans (hz.mono hbc.size)
         have dlz := loadDs_at ((hbc.block w2.heap.size (lt_of_block HD7.out)).trans HD7.out) rfl)))
  all_goals
    have HBF := Lib.hid (HB7.out.trans (hbc.mono HB7.out.size))
    clear hbc
    go_wp2_with fail
    go_ret
    exact ⟨rfl, HBF.out⟩

theorem law_any (org fmt len blk n : Int) (w : World) (B : Nat) (a : Option Addr) (cap : Nat) (l : List By) (h : Strs w B a l) (hB : B ≤ w.heap.size) (hcap : l.length ≤ cap) (hc63 : cap ≤ 9223372036854775807) (hc0 : Codes w) :
    Calls Tryd.prog 3 #[.agg #[.int .i64 org, .int .i64 fmt, .int .i64 len, .int .i64 blk], .int .i64 n, .slice a l.length cap] w fun e w' => e = .returned (.bool true) ∧ Below w.heap.size w w' := by
  cases hf : fewV l 30 1100
  · exact law_few org fmt len blk n w B a cap l h hB (by omega) hc0 hf
  · exact law_all org fmt len blk n w B a cap l h hB hcap (by omega) hc0 hf

end Go.Proofs.YthkpcalopmddpaaDoor

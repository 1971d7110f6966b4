/-
  Walk: the reference unpacks blocks of format 1. Condition: valid sizes.
-/
import Derived.Test.YthkpcalopmddpaaGreatDoorHC
import Derived.Test.YthkpcalopmddpaaGreatDoorHB
import Derived.Test.YthkpcalopmddpaaGreatDoorGQ
import Derived.Test.YthkpcalopmddpaaGreatDoorGP
namespace Go.Proofs.YthkpcalopmddpaaGreatDoor
open Go.RowKit Go.Sort
attribute [local go_sem] strOfNums_size ext_drop ext_take
attribute [local go_sem ↓] loadDs_down

set_option maxRecDepth 100000 in
set_option maxHeartbeats 4000000 in
theorem runpack1_any (w : World) (B : Nat) (a : Option Addr) (cap : Nat) (l : List By) (len blk : Nat) (h : Strs w B a l) (hB : B ≤ w.heap.size) (hl : l.length ≤ 1000000) (hsum : l.flatten.length ≤ 40000) (hdv : dsV 0 1 len blk = true) :
    Calls Tryz.prog 63 #[.agg (dsv 0 1 len blk), .slice a l.length cap] w fun e w' => UPost w (unpW 1 len blk l) e w' := by
  have hv : varV len blk = true := by
    rcases ds_parts hdv with ⟨h, _⟩ | ⟨_, h⟩ | ⟨h, _⟩
    · cases h
    · exact h
    · cases h
  have hvf : fixV len blk = true := by have h := hv; simp [varV, fixV] at h ⊢; omega
  have HV := Lib.hid hv
  have HVF := Lib.hid hvf
  have h1l : 1 ≤ len := by have h := hvf; simp [fixV] at h; omega
  have HEL := Lib.hid (fun d L (hL : varU len blk d = some L) => show L.length ≤ d.length from (varU_ok hL).1)
  have HMEM := Lib.hid (fun d (hd : d ∈ l) => show d.length ≤ 40000 from Nat.le_trans (mem_flat_len hd) hsum)
  have HOK := Lib.hid (fun R (hR : eachU (varU len blk) l = some R) => unpV_ok (R := R) hdv (show unpV 1 len blk l = some R by rw [← hR]; unfold unpV; simp))
  have hT : unpW 1 len blk l = match eachU (varU len blk) l with
    | none => none
    | some R => if packV 1 len blk R = l then some R else none := by
    unfold unpW; rw [show unpV 1 len blk l = eachU (varU len blk) l by unfold unpV; simp]; cases eachU (varU len blk) l <;> rfl
  generalize unpW 1 len blk l = T at hT ⊢
  obtain ⟨i0, hi0, hz0, hz1, hz2⟩ := info_parts info9
  obtain ⟨W0, hW0⟩ : ∃ W0, W0 = w.alloc (.cells (dsv 0 1 len blk) 29) := ⟨_, rfl⟩
  have HB0 := Lib.hid (show Below w.heap.size w W0 by rw [hW0]; exact box_below w _ _)
  have HD0 := Lib.hid (show W0.heap[w.heap.size]? = some (.cells (dsv 0 1 len blk) 29 (0, 0)) by rw [hW0]; exact heap_alloc_new w _)
  have hs0 : W0.heap.size = w.heap.size + 1 := by rw [hW0]; simp
  have hS0 : EaSt W0 (varU len blk) l (eachU (varU len blk) l) (W0.alloc (.cells #[] 9)) 0 [] (.slice (some ⟨w.heap.size + 1, 0, none⟩) 0 0) := by
    refine ⟨(Below.refl _ _).alloc (Nat.le_refl _) _, ?_, by rw [List.drop_zero]; cases eachU (varU len blk) l <;> rfl, by simp⟩
    exact lit0 9 hs0.symm (Nat.le_refl _)
  have HS := Lib.hid hS0
  generalize eachU (varU len blk) l = E at hT HS HOK
  have HT := Lib.hid hT
  have HW0 := Lib.hid hW0
  have HSZ := Lib.hid hs0
  have HC0 := Lib.hid (h.below (HB0.out.mono hB))
  have HBW := Lib.hid (show B ≤ W0.heap.size by omega)
  have HSUM := Lib.hid hsum
  have HDV := Lib.hid hdv
  clear hv hvf hT hS0 hW0 hs0 hsum h hdv
  have c2 := cell_at (i := 2) (v := .int .i64 1) HD0.out rfl
  have w2 := HW0.out ▸ c2
  clear c2
  go_enter Tryz.func63, Tryz.ntmps63
  go_wp2_with fail
  rw [← HW0.out]
  clear w2
  go_loopw [6, 7, 8, 9] (fun v k _ _ wr => ∃ (j : Nat) (out : List By), j ≤ l.length ∧ k = .int .i64 j ∧ EaSt W0 (varU len blk) l E wr j out v) (fun _ k _ _ _ => l.length - (intOf k).toNat)
  case atStart => exact ⟨0, [], by omega, rfl, HS.out⟩
  case round =>
    clear HS
    obtain ⟨j, out, hj, rfl, hS⟩ := hrel
    have HB := Lib.hid hS.bel
    have HO := Lib.hid hS.own
    have hfew := hS.few
    have hwb : w.heap.size < W0.heap.size := by rw [HSZ.out]; omega
    have hdr := (HB.out.block w.heap.size hwb).trans HD0.out
    by_cases hlt : j < l.length
    · obtain ⟨b, off, rfl, hbb, hc⟩ := HC0.out.get hlt
      have hcw := (hS.bel.cell (p := ⟨b, off + j, none⟩) (show b < W0.heap.size from Nat.lt_of_lt_of_le hbb HBW.out)).trans hc
      have hT := hS.tot.trans (by rw [eachU_drop (varU len blk) l j hlt])
      have hdm := HMEM.out l[j] (List.getElem_mem hlt)
      clear hS hc
      generalize l[j] = d at hT hcw hdm
      have hcall := fun W => rvunpack_any d len blk W HV.out (by omega)
      have hlen := fun L (hL : varU len blk d = some L) => HEL.out d L hL
      have HQ0 := Lib.hid (fun W => rfunpack_any d len blk W HVF.out (by omega))
      generalize varU len blk d = R at hT hcall hlen
      have d3 := cell_at (i := 3) (v := .int .i64 len) hdr rfl
      have d4 := cell_at (i := 4) (v := .int .i64 blk) hdr rfl
      have d2 := cell_at (i := 2) (v := .int .i64 1) hdr rfl
      have HDR := Lib.hid hdr
      clear hdr
      cases R with
      | none =>
        have HE := Lib.hid (show E = none from hT)
        have HC := Lib.hid hcall
        clear hT hcall hlen
        go_wp2_with fail
        have k1 : wr.drew.cell? ⟨w.heap.size, 3, none⟩ = some (.int .i64 len) ∧ wr.drew.cell? ⟨w.heap.size, 4, none⟩ = some (.int .i64 blk) ∧ wr.drew.cell? ⟨b, off + j, none⟩ = some (.string ⟨d.toArray⟩) := ⟨d3, d4, hcw⟩
        go_region_held3 (fun w' => w'.cell? ⟨w.heap.size, 3, none⟩ = some (.int .i64 len) ∧ w'.cell? ⟨w.heap.size, 4, none⟩ = some (.int .i64 blk) ∧ w'.cell? ⟨b, off + j, none⟩ = some (.string ⟨d.toArray⟩)) (first | (with_reducible exact k2) | (with_reducible exact k1) | exact k2 | exact k1 | fail)
          ((first
            | (go_at_call 80
               (with_reducible refine (HQ0.out _).mono ?_)
               rintro e w1 hU1
               obtain ⟨vq, kq, rfl, _⟩ := hU1.any
               have q1 := (below_drew1 (w := wr)).trans hU1.bel
               have r1 := (q1.block w.heap.size (lt_of_block HDR.out)).trans HDR.out
               have k2 : w1.cell? ⟨w.heap.size, 3, none⟩ = some (.int .i64 len) ∧ w1.cell? ⟨w.heap.size, 4, none⟩ = some (.int .i64 blk) ∧ w1.cell? ⟨b, off + j, none⟩ = some (.string ⟨d.toArray⟩) := ⟨cell_at (i := 3) (v := .int .i64 len) r1 rfl, cell_at (i := 4) (v := .int .i64 blk) r1 rfl, (q1.cell (p := ⟨b, off + j, none⟩) (block_lt_of_cell hcw)).trans hcw⟩)
            | fail))
        have HB1 := Lib.hid q1
        have HR1 := Lib.hid r1
        have e2 := cell_at (i := 2) (v := .int .i64 1) r1 rfl
        obtain ⟨e3, e4, hcv⟩ := k2
        clear hU1 q1 r1 k1
        go_wp2_with fail
        have k3 : w1.drew.cell? ⟨w.heap.size, 3, none⟩ = some (.int .i64 len) ∧ w1.drew.cell? ⟨w.heap.size, 4, none⟩ = some (.int .i64 blk) ∧ w1.drew.cell? ⟨b, off + j, none⟩ = some (.string ⟨d.toArray⟩) := ⟨e3, e4, hcv⟩
        go_region_held3 (fun w' => w'.cell? ⟨w.heap.size, 3, none⟩ = some (.int .i64 len) ∧ w'.cell? ⟨w.heap.size, 4, none⟩ = some (.int .i64 blk) ∧ w'.cell? ⟨b, off + j, none⟩ = some (.string ⟨d.toArray⟩)) (first | (with_reducible exact k4) | (with_reducible exact k3) | exact k4 | exact k3 | fail)
          ((first
            | (go_at_call 81
               (with_reducible refine (HC.out _).mono ?_)
               rintro e w2 hU
               obtain rfl := hU.bad rfl
               have q3 := (below_drew1 (w := w1)).trans hU.bel
               have r3 := (q3.block w.heap.size (lt_of_block HR1.out)).trans HR1.out
               have k4 : w2.cell? ⟨w.heap.size, 3, none⟩ = some (.int .i64 len) ∧ w2.cell? ⟨w.heap.size, 4, none⟩ = some (.int .i64 blk) ∧ w2.cell? ⟨b, off + j, none⟩ = some (.string ⟨d.toArray⟩) := ⟨cell_at (i := 3) (v := .int .i64 len) r3 rfl, cell_at (i := 4) (v := .int .i64 blk) r3 rfl, (q3.cell (p := ⟨b, off + j, none⟩) (block_lt_of_cell hcv)).trans hcv⟩)
            | fail))
        clear q3 r3 k3 k4
        have HB2 := Lib.hid (HB.out.trans ((HB1.out.trans ((below_drew1.trans hU.bel).mono HB1.out.size)).mono HB.out.size))
        clear hU
        go_wp2_with fail
        go_ret2
        exact UPost.no (by rw [HT.out, HE.out]) (HB0.out.trans (HB2.out.mono HB0.out.size))
      | some L =>
        have HE := Lib.hid (show E = (eachU (varU len blk) (l.drop (j + 1))).map ((out ++ L) ++ ·) by
          rw [show E = ((eachU (varU len blk) (l.drop (j + 1))).map (L ++ ·)).map (out ++ ·) from hT]
          generalize eachU (varU len blk) (l.drop (j + 1)) = z
          cases z <;> simp)
        have HC := Lib.hid hcall
        have hL := hlen L rfl
        clear hT hcall hlen
        go_wp2_with fail
        have k1 : wr.drew.cell? ⟨w.heap.size, 3, none⟩ = some (.int .i64 len) ∧ wr.drew.cell? ⟨w.heap.size, 4, none⟩ = some (.int .i64 blk) ∧ wr.drew.cell? ⟨b, off + j, none⟩ = some (.string ⟨d.toArray⟩) := ⟨d3, d4, hcw⟩
        go_region_held3 (fun w' => w'.cell? ⟨w.heap.size, 3, none⟩ = some (.int .i64 len) ∧ w'.cell? ⟨w.heap.size, 4, none⟩ = some (.int .i64 blk) ∧ w'.cell? ⟨b, off + j, none⟩ = some (.string ⟨d.toArray⟩)) (first | (with_reducible exact k2) | (with_reducible exact k1) | exact k2 | exact k1 | fail)
          ((first
            | (go_at_call 80
               (with_reducible refine (HQ0.out _).mono ?_)
               rintro e w1 hU1
               obtain ⟨vq, kq, rfl, _⟩ := hU1.any
               have q1 := (below_drew1 (w := wr)).trans hU1.bel
               have r1 := (q1.block w.heap.size (lt_of_block HDR.out)).trans HDR.out
               have k2 : w1.cell? ⟨w.heap.size, 3, none⟩ = some (.int .i64 len) ∧ w1.cell? ⟨w.heap.size, 4, none⟩ = some (.int .i64 blk) ∧ w1.cell? ⟨b, off + j, none⟩ = some (.string ⟨d.toArray⟩) := ⟨cell_at (i := 3) (v := .int .i64 len) r1 rfl, cell_at (i := 4) (v := .int .i64 blk) r1 rfl, (q1.cell (p := ⟨b, off + j, none⟩) (block_lt_of_cell hcw)).trans hcw⟩)
            | fail))
        have HB1 := Lib.hid q1
        have HR1 := Lib.hid r1
        have e2 := cell_at (i := 2) (v := .int .i64 1) r1 rfl
        obtain ⟨e3, e4, hcv⟩ := k2
        clear hU1 q1 r1 k1
        go_wp2_with fail
        have k3 : w1.drew.cell? ⟨w.heap.size, 3, none⟩ = some (.int .i64 len) ∧ w1.drew.cell? ⟨w.heap.size, 4, none⟩ = some (.int .i64 blk) ∧ w1.drew.cell? ⟨b, off + j, none⟩ = some (.string ⟨d.toArray⟩) := ⟨e3, e4, hcv⟩
        go_region_held3 (fun w' => w'.cell? ⟨w.heap.size, 3, none⟩ = some (.int .i64 len) ∧ w'.cell? ⟨w.heap.size, 4, none⟩ = some (.int .i64 blk) ∧ w'.cell? ⟨b, off + j, none⟩ = some (.string ⟨d.toArray⟩)) (first | (with_reducible exact k4) | (with_reducible exact k3) | exact k4 | exact k3 | fail)
          ((first
            | (go_at_call 81
               (with_reducible refine (HC.out _).mono ?_)
               rintro e w2 hU
               obtain ⟨v2, rfl, ho2⟩ := hU.good L rfl
               have q3 := (below_drew1 (w := w1)).trans hU.bel
               have r3 := (q3.block w.heap.size (lt_of_block HR1.out)).trans HR1.out
               have k4 : w2.cell? ⟨w.heap.size, 3, none⟩ = some (.int .i64 len) ∧ w2.cell? ⟨w.heap.size, 4, none⟩ = some (.int .i64 blk) ∧ w2.cell? ⟨b, off + j, none⟩ = some (.string ⟨d.toArray⟩) := ⟨cell_at (i := 3) (v := .int .i64 len) r3 rfl, cell_at (i := 4) (v := .int .i64 blk) r3 rfl, (q3.cell (p := ⟨b, off + j, none⟩) (block_lt_of_cell hcv)).trans hcv⟩)
            | fail))
        clear q3 r3 k3 k4
        have hbq := HB1.out.trans ((below_drew1.trans hU.bel).mono HB1.out.size)
        have HB2 := Lib.hid (HB.out.trans (hbq.mono HB.out.size))
        have hown2 := own_below HO.out hbq
        clear hU hbq
        obtain ⟨na, nc, rfl, hN⟩ := news_slice ho2
        clear ho2
        go_wp2_with (at_builtin; (refine wpList_append_rows rfl _ _ 24 rfl W0.heap.size 9 i0 (.string ByteArray.empty) 1 16 Tryz.underlying24 hi0 hz0 hz1 hz2 rfl (by decide) _ _ _ rfl hown2 _ _ _ (L.map sv) rfl (by simp) hN.out (one_sv L) (by unfold maxLen; omega) (by omega) HB2.out.size ?_))
        intro v6 w6 hown6 hg6
        have hb6 := HB2.out.grown hg6 HB2.out.size (fun k hk => row_own hown2 hk)
        have HZ := Lib.hid (show EaSt W0 (varU len blk) l E w6 (j + 1) (out ++ L) v6 from ⟨hb6, by rw [List.length_append, List.map_append]; exact hown6, HE.out, by rw [List.length_append]; omega⟩)
        clear hown2 hown6 hg6 hb6 hN
        go_wp2_with fail
        go_roundw
        case rel => exact ⟨j + 1, out ++ L, by omega, by go_num, HZ.out⟩
        case measure => simp [intOf]; omega
    · obtain rfl : j = l.length := by omega
      have hE : E = some out := by rw [hS.tot, List.drop_length]; simp [eachU]
      have hT := HT.out
      rw [hE] at hT
      replace hT : T = if packV 1 len blk out = l then some out else none := hT
      obtain ⟨ho1, ho2⟩ := HOK.out out hE
      have hfl : l.flatten.length ≤ 40000 := HSUM.out
      have dl := loadDs_at hdr rfl
      obtain ⟨oa, oc, rfl, _, hOS⟩ := newsAt_of_row HO.out
      have hp := rpack_any 1 len blk wr wr.heap.size oa oc out hOS (Nat.le_refl _) (by omega) HDV.out
      rw [ho2] at hp
      have hbm := (packV_bm 1 len blk out HDV.out ho2 (by omega)).few
      clear hS hE ho1 ho2 hOS hdr
      generalize packV 1 len blk out = P at hT hp hbm
      have HP := Lib.hid hp
      clear hp
      go_wp2_with fail
      refine HP.out.mono ?_
      rintro e w3 hP
      obtain ⟨v3, rfl, ho3⟩ := hP.good rfl
      have hb3 := hP.bel
      clear hP dl
      obtain ⟨pa, pc, rfl, _, hPS⟩ := newsAt_of_row ho3
      have HB3 := Lib.hid (HB.out.trans (hb3.mono HB.out.size))
      have HO3 := Lib.hid (own_below HO.out hb3)
      have hq := rsame_any w3 w3.heap.size B pa a pc cap P l hPS (HC0.out.below (HB3.out.mono HBW.out)) (by omega) (by omega)
      clear ho3 hb3 hPS
      by_cases he : P = l
      · have HT2 := Lib.hid (show T = some out by rw [hT, if_pos he])
        have HQ := Lib.hid hq
        rw [show decide (P = l) = true by simp [he]] at HQ
        clear hT he hq
        go_wp2_with fail
        refine HQ.out.mono ?_
        rintro e w4 ⟨rfl, hb4⟩
        have HB4 := Lib.hid (HB0.out.trans ((HB3.out.trans (hb4.mono HB3.out.size)).mono HB0.out.size))
        have HO4 := Lib.hid (own_mono (own_below HO3.out hb4) HB0.out.size)
        clear hb4
        go_wp2_with fail
        go_ret2
        exact UPost.yes HT2.out HO4.out HB4.out
      · have HT2 := Lib.hid (show T = none by rw [hT, if_neg he])
        have HQ := Lib.hid hq
        rw [show decide (P = l) = false by simp [he]] at HQ
        clear hT he hq
        go_wp2_with fail
        refine HQ.out.mono ?_
        rintro e w4 ⟨rfl, hb4⟩
        have HB4 := Lib.hid (HB0.out.trans ((HB3.out.trans (hb4.mono HB3.out.size)).mono HB0.out.size))
        clear hb4
        go_wp2_with fail
        go_ret2
        exact UPost.no HT2.out HB4.out

end Go.Proofs.YthkpcalopmddpaaGreatDoor

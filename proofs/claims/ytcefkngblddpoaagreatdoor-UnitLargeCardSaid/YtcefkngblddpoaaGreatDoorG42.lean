/-
  Walk: an append to a sequential data set, over the base that counts. Condition: unit and manager lie in memory, apart; the lock can be asked for; texts are not too long.
  Walks: Do, where record or label is known. Condition: none but theirs.
  Rows of structs of up to 400 bytes. No condition but lengths.
  Walks: the descriptions of a data set's alternate indexes, by the reference. Condition: the contents lie in memory.
-/
import Derived.Test.YtcefkngblddpoaaGreatDoorG41
namespace Go.Proofs.YtcefkngblddpoaaGreatDoor

section
set_option maxRecDepth 100000
set_option maxHeartbeats 16000000
set_option linter.unusedSimpArgs false
set_option linter.unusedVariables false
open Go.RowKit Go.Sort
def fromK (k : By) : Rg := ⟨k, [], true⟩
/-- What an append to a sequential data set does, over the base that counts. -/
def seqU (u : Un) (L : Ls) (c : Ch) : (By × Int) × (Un × Ls) :=
 if chV c = false then (([], 1), (u, L)) else
 if (lockU u L c.id (fromK (slotB ((ownOf u c.id).lens.length + 1))) true).1 ≠ 0 then (([], (lockU u L c.id (fromK (slotB ((ownOf u c.id).lens.length + 1))) true).1), (u, (lockU u L c.id (fromK (slotB ((ownOf u c.id).lens.length + 1))) true).2)) else
 (if (addU u (slotB ((ownOf u c.id).lens.length + 1)) [c]).1 ≠ 0 then ([], (addU u (slotB ((ownOf u c.id).lens.length + 1)) [c]).1) else (slotB ((ownOf u c.id).lens.length + 1), 0), ((addU u (slotB ((ownOf u c.id).lens.length + 1)) [c]).2, (lockU u L c.id (fromK (slotB ((ownOf u c.id).lens.length + 1))) true).2))
section
attribute [local go_sem ↓] loadCh_down storeCh_down loadRg_down storeRg_down loadDs_down storeDs_down
theorem urec_seq (w : World) (S M : List Nat) (p m q : Nat) (z : Rest) (fmt len blk : Int) (u : Un) (L : Ls) (c : Ch) (h : UM w S M p m (Bs.count q z 0 fmt len blk).val u L) (hq : w.heap[q]? = some (.cells (dsv z 0 fmt len blk) 99 (0, 0))) (hqS : q ∉ M) (hz : z.base = 0) (hk : c.kind = 2) (hc : ChLen c) (hi : I64 c.id) (hu : ∀ x ∈ u.chs, ChLen x) (hln : (ownOf u c.id).lens.length ≤ 800000) (hcan : CanAsk u L c.id (fromK (slotB ((ownOf u c.id).lens.length + 1))) true) :
 Calls Tryz.prog 88 #[.pointer (some ⟨p, 0, none⟩), .agg c.cs] w fun e w' => DoE (seqU u L c) S M p m (Bs.count q z 0 fmt len blk).val w e w' := by
 obtain ⟨R, hR⟩ : ∃ R, R = seqU u L c := ⟨_, rfl⟩
 rw [← hR]
 unfold seqU at hR
 have HU := Lib.hid h
 have hlnL : (ownOf u c.id).lens.length ≤ 1000000 := by omega
 have HTG := Lib.hid (fun (W : World) (hW : Below w.heap.size w W) => show Calls Tryz.prog 144 #[.pointer (some ⟨p, 0, none⟩), .agg c.cs] W fun e w' => e = .returned (.tuple #[.string ⟨(slotB ((ownOf u c.id).lens.length + 1)).toArray⟩, .agg #[.string ⟨(slotB ((ownOf u c.id).lens.length + 1)).toArray⟩, .string ⟨#[]⟩, .bool true], .int .i64 0]) ∧ Below W.heap.size W w' from by
  obtain ⟨k, rfl, hbv, _, _, hk0⟩ := (h.un.below hW)
  exact target_apc W k u c q hk0 hbv hk hi hln)
 have hsl : (slotB ((ownOf u c.id).lens.length + 1)).length ≤ 1000000 := by rw [slot_len]; omega
 obtain ⟨s, hs⟩ : ∃ s, s = slotB ((ownOf u c.id).lens.length + 1) := ⟨_, rfl⟩
 rw [← hs] at hR HTG hsl hcan
 have HADD := Lib.hid (fun (W : World) (M' : List Nat) (L' : Ls) (hm : UM W S M' p m (Bs.count q z 0 fmt len blk).val u L') => uadd_at (W.alloc (.cells c.cs 36)) S p (Bs.count q z 0 fmt len blk).val (lvOf m) u s (some ⟨W.heap.size, 0, none⟩) 1 [c] (hm.un.below (box_below0 W c.cs 36))
  ⟨chs_one (heap_alloc_new W _), fun _ q hq hm' => by cases hq; exact Nat.lt_irrefl _ (hm.un.lt _ hm')⟩ (by simp)
  (fun x hx => by rcases List.mem_append.1 hx with q | q; exact hu x q; rw [List.mem_singleton] at q; rw [q]; exact hc) (fun x hx => by rw [List.mem_singleton] at hx; rw [hx]; exact hi) hsl (fun e => by cases e)
  (fun j hj => by obtain rfl : j = 0 := by simpa using hj
                  exact hlnL))
 obtain ⟨A, hA⟩ : ∃ A, A = addU u s [c] := ⟨_, rfl⟩
 rw [← hA] at hR HADD
 have HL := Lib.hid (fun (W : World) (hW : Below w.heap.size w W) => ulock_w W S p (Bs.count q z 0 fmt len blk).val M m L u c.id (fromK s) true (HU.out.un.below hW) (HU.out.mg.below hW) hcan.1 hcan.2.1 hcan.2.2)
 obtain ⟨y, hy⟩ : ∃ y, y = lockU u L c.id (fromK s) true := ⟨_, rfl⟩
 rw [← hy] at hR HL
 obtain ⟨z1, L1⟩ := y
 simp only at hR HL
 have HR := Lib.hid hR
 have HCL := Lib.hid hc
 have HZB := Lib.hid hz
 have HQ := Lib.hid hq
 have HKD := Lib.hid hk
 clear hk hz
 obtain ⟨a1, A2⟩ := A
 simp only at HR HADD
 have HNM := Lib.hid (show ∀ x, w.heap.size ≤ x → x ∉ M from fun x hx hm => by have := h.mg.lt x hm; omega)
 obtain ⟨w0, hw0⟩ : ∃ w0, w0 = w.alloc (.cells c.cs 36) := ⟨_, rfl⟩
 have hx : w0.heap[w.heap.size]? = some (.cells c.cs 36 (0, 0)) := by rw [hw0]; exact heap_alloc_new w _
 have hb0 : Below w.heap.size w w0 := by rw [hw0]; exact box_below0 _ _ _
 have HW := Lib.hid hw0
 have HX := Lib.hid hx
 have HB0 := Lib.hid hb0
 have HS0 := Lib.hid (show w0.heap.size = w.heap.size + 1 by rw [hw0]; exact World.size_alloc _ _)
 have hf1 : w0.cell? ⟨p, 1, none⟩ = some (Bs.count q z 0 fmt len blk).val := by
  obtain ⟨k, rfl, hbv, _, _, hk0⟩ := (h.un.below hb0)
  exact cell_at (i := 1) hk0.row (by rw [← hbv]; rfl)
 have hf2 := cell_at (i := 1) (v := .int .i64 c.id) hx rfl
 have HF := Lib.hid (fun (V : World) (hb : Below w0.heap.size w0 V) => And.intro ((hb.cell (p := ⟨p, 1, none⟩) (block_lt_of_cell hf1)).trans hf1) ((hb.cell (p := ⟨w.heap.size, 1, none⟩) (block_lt_of_cell hf2)).trans hf2))
 have HSET := Lib.hid (fun (V : World) (hb : Below w0.heap.size w0 V) => cset_w V q z 0 fmt len blk c.id (heap_below (hb0.trans (hb.mono hb0.size)) (lt_of_block hq) hq))
 clear h hq hqS hc hi hu hln hlnL hcan hs hsl hA hy hR hw0 hx hb0 hf1 hf2
 go_enter Tryz.func88, Tryz.ntmps88
 go_upto_region 1 with fail
 rw [← HW.out]
 refine wp_region_held_drew (S := fun V => V.cell? ⟨p, 1, none⟩ = some (.iface 97 (.pointer (some ⟨q, 0, none⟩))) ∧ V.cell? ⟨w.heap.size, 1, none⟩ = some (.int .i64 c.id)) (by kernel_rfl) (HF.out w0 (Below.refl _ _)) (fun hHeld => ?_)
 refine tk 0 (.pointer (some ⟨p, 0, none⟩)) 22 ?_
 refine tk 1 (.pointer (some ⟨p, 0, none⟩)) 23 ?_
 refine tk 2 (.pointer (some ⟨p, 1, none⟩)) 24 ?_
 refine tk 3 (.iface 97 (.pointer (some ⟨q, 0, none⟩))) 25 ?_
 refine tk 4 (.pointer (some ⟨w.heap.size, 1, none⟩)) 26 ?_
 refine tk 5 (.int .i64 c.id) 27 ?_
 refine rd2 6 11 (fun K hK => ?_) (fun K hK => ?_)
 · skip
   go_simp
   (try go_wp2_with fail)
   refine (HSET.out w0.drew (below_drewN (Below.refl w0.heap.size w0) 1)).mono ?_
   rintro e V1 ⟨rfl, hbq⟩
   have hbV1 : Below w0.heap.size w0 V1 := (below_drewN (Below.refl w0.heap.size w0) 1).trans (hbq.mono (below_drewN (Below.refl w0.heap.size w0) 1).size)
   have HBV1 := Lib.hid hbV1
   clear hbq
   refine hK.out _ _ (HF.out V1 hbV1) (fun hHeld => ?_)
   clear hbV1 hK K
   try simp only [lay]
   refine tk 7 (.tuple #[.agg (dsv z 0 fmt len blk), .slice none 0 0, .int .i64 0]) 21 ?_
   refine tk 8 (.agg (dsv z 0 fmt len blk)) 29 ?_
   refine tk 9 (.slice none 0 0) 30 ?_
   refine tk 10 (.int .i64 0) 31 ?_
   obtain ⟨V2, hV2⟩ : ∃ X, X = V1.alloc (.cells dsZ 45) := ⟨_, rfl⟩
   have hgV2 : V2.heap[V1.heap.size]? = some (.cells dsZ 45 (0, 0)) := by rw [hV2]; exact heap_alloc_new V1 _
   have hbV2 : Below w0.heap.size w0 V2 := by rw [hV2]; exact (HBV1.out).trans ((box_below0 V1 dsZ 45).mono (HBV1.out).size)
   have HGV2 := Lib.hid hgV2
   have HBV2 := Lib.hid hbV2
   have HEV2 := Lib.hid hV2
   clear hV2 hgV2 hbV2
   refine rd1 11 fun K hK => ?_
   go_simp
   rw [← HEV2.out]
   refine hK.out _ _ (HF.out V2 HBV2.out) (fun hHeld => ?_)
   clear hK K
   try simp only [lay]
   have HGG := HGV2
   have HDL := Lib.hid (show w0.heap.size ≤ V1.heap.size from HBV1.out.size)
   have hst := storeDs_at (z := z) (org := 0) (fmt := fmt) (len := len) (blk := blk) HGG.out rfl
   have hz3 := setRow_heap _ _ _ (dsv z 0 fmt len blk) _ _ HGG.out
   have hb3 := below_setRow (g := V1.heap.size) HBV2.out HDL.out (dsv z 0 fmt len blk)
   obtain ⟨V3, hV3⟩ : ∃ X, X = V2.setRow V1.heap.size (dsv z 0 fmt len blk) := ⟨_, rfl⟩
   rw [← hV3] at hst hz3 hb3
   have HD3 := Lib.hid hz3
   have HB3 := Lib.hid hb3
   clear hz3 hb3 hV3
   refine rd1 12 fun K hK => ?_
   go_simp
   (try go_wp2_with fail)
   refine hK.out _ _ (HF.out V3 HB3.out) (fun hHeld => ?_)
   clear hK K
   try simp only [lay]
   refine tk 13 (.slice none 0 0) 7 ?_
   refine tk 14 (.int .i64 0) 8 ?_
   refine wpAnyH_done (by kernel_rfl) ?_ _
   clear hst
   obtain ⟨D, hDe⟩ : ∃ X, X = V1.heap.size := ⟨_, rfl⟩
   have HDG := Lib.hid (show w.heap.size ≤ D by rw [hDe]; have := HDL.out; have := HS0.out; omega)
   rw [← hDe] at HD3 ⊢
   clear hDe
   have HX3 := Lib.hid (heap_below HB3.out (lt_of_block HX.out) HX.out)
   have k0 := cell_at (i := 0) (v := .int .i64 c.kind) HX3.out rfl
   rw [HKD.out] at k0
   have d1 := cell_at (i := 1) (v := .int .i64 0) HD3.out rfl
   have d11 := cell_at (i := 11) (v := .int .i64 z.base) HD3.out rfl
   rw [HZB.out] at d11
   have ldD := loadDs_at HD3.out rfl
   have HCP := Lib.hid (complete_no V3 w.heap.size c z 0 fmt len blk HX3.out (Or.inl (by decide)))
   go_wp2_with fail
   refine HCP.out.mono ?_
   rintro e V4 ⟨rfl, hb4⟩
   have HB4 := Lib.hid (HB3.out.trans (hb4.mono HB3.out.size))
   have HX4 := Lib.hid (heap_below hb4 (lt_of_block HX3.out) HX3.out)
   have HD4 := Lib.hid (heap_below hb4 (lt_of_block HD3.out) HD3.out)
   clear hb4 k0 d1 d11 ldD
   have ldX4 := loadCh_at HX4.out rfl
   have HV := Lib.hid (show Calls Tryz.prog 140 #[.agg c.cs] V4 fun e w' => e = .returned (.bool (chV c)) ∧ Below V4.heap.size V4 w' from cvalid_any c.kind c.id c.key c.dat c.vol V4 HCL.out.k64 (by have := HCL.out.len; omega) (by have := HCL.out.len; omega) (by have := HCL.out.len; omega))
   cases hv : chV c with
   | false =>
     rw [hv] at HV
     have HRE := Lib.hid (show R = (([], 1), (u, L)) by rw [HR.out, if_pos hv])
     clear hv
     go_wp2_with fail
     refine HV.out.mono ?_
     rintro e V5 ⟨rfl, hb5⟩
     have HB5 := Lib.hid (HB0.out.trans ((HB4.out.trans (hb5.mono HB4.out.size)).mono HB0.out.size))
     clear hb5 ldX4
     go_wp2_with fail
     go_ret2
     exact ⟨by rw [HRE.out]; rfl, S, M, by rw [HRE.out]; exact HU.out.below HB5.out, Mv.of_below HB5.out⟩
   | true =>
     rw [hv] at HV
     have HRT := Lib.hid (show R = (if z1 ≠ 0 then (([], z1), (u, L1)) else (if a1 ≠ 0 then ([], a1) else (s, 0), (A2, L1))) by rw [HR.out, if_neg (by rw [hv]; simp)])
     clear hv
     go_wp2_with fail
     refine HV.out.mono ?_
     rintro e V5 ⟨rfl, hb5⟩
     have HB5 := Lib.hid (HB4.out.trans (hb5.mono HB4.out.size))
     have HX5 := Lib.hid (heap_below hb5 (lt_of_block HX4.out) HX4.out)
     have HD5 := Lib.hid (heap_below hb5 (lt_of_block HD4.out) HD4.out)
     have ldX5 := loadCh_at HX5.out rfl
     have HBw5 := Lib.hid (HB0.out.trans (HB5.out.mono HB0.out.size))
     clear hb5 ldX4
     go_wp2_with fail
     refine (HTG.out V5 HBw5.out).mono ?_
     rintro e V6 ⟨rfl, hb6⟩
     have HB6 := Lib.hid (HB5.out.trans (hb6.mono HB5.out.size))
     have HX6 := Lib.hid (heap_below hb6 (lt_of_block HX5.out) HX5.out)
     have HD6 := Lib.hid (heap_below hb6 (lt_of_block HD5.out) HD5.out)
     clear hb6 ldX5
     obtain ⟨V7, hst7, hz7, hb7⟩ := put_rg V6 ⟨s, [], true⟩
     have HB7 := Lib.hid (HB6.out.trans (hb7.mono HB6.out.size))
     have HX7 := Lib.hid (heap_below hb7 (lt_of_block HX6.out) HX6.out)
     have HD7 := Lib.hid (heap_below hb7 (lt_of_block HD6.out) HD6.out)
     have HBw7 := Lib.hid (HB0.out.trans (HB7.out.mono HB0.out.size))
     have id7 := cell_at (i := 1) (v := .int .i64 c.id) HX7.out rfl
     have ldR := loadRg_at hz7 rfl
     clear hb7 hz7
     go_wp2_with fail
     refine (HL.out V7 HBw7.out).mono ?_
     rintro e V8 ⟨rfl, M8, hm8, hv8⟩
     have HU8 := Lib.hid ((HU.out.below HBw7.out).mg' hm8 hv8)
     have HV8 := Lib.hid ((Mv.of_below HBw7.out).trans hv8)
     have HX8 := Lib.hid (hv8.only.heap HX7.out (HNM.out _ (Nat.le_refl _)))
     have HD8 := Lib.hid (hv8.only.heap HD7.out (HNM.out _ HDG.out))
     clear hm8 hv8 hst7 id7 ldR
     by_cases hz1 : z1 = 0
     · subst hz1
       have HRU := Lib.hid (show R = (if a1 ≠ 0 then ([], a1) else (s, 0), (A2, L1)) by rw [HRT.out, if_neg (by simp)])
       have ldX8 := loadCh_at HX8.out rfl
       have hb9 := box_below0 V8 c.cs 36
       have HA9 := Lib.hid (HADD.out V8 M8 L1 HU8.out)
       obtain ⟨W9, hW9⟩ : ∃ W9, W9 = V8.alloc (.cells c.cs 36) := ⟨_, rfl⟩
       rw [← hW9] at hb9 HA9
       have d19 := cell_at (i := 1) (v := .int .i64 0) (heap_below hb9 (lt_of_block HD8.out) HD8.out) rfl
       have HB9 := Lib.hid hb9
       have HW9 := Lib.hid hW9
       clear hb9 hW9
       go_upto_region 19 with fail
       rw [← HW9.out]
       clear ldX8
       go_wp2_with fail
       clear d19
       go_loopw [111] (fun t wr => t = .int .i64 0 ∧ wr = W9) (fun _ _ => 0)
       case atStart => exact ⟨rfl, rfl⟩
       case round =>
        obtain ⟨rfl, hwr⟩ := hrel
        subst hwr
        go_wp2_with fail
        refine HA9.out.mono ?_
        rintro e W10 ⟨rfl, S10, hu10, hv10⟩
        have HU10 := Lib.hid ((HU8.out.below HB9.out).un' hu10 hv10)
        have HV10 := Lib.hid ((Mv.of_below HB9.out).trans hv10)
        clear hu10 hv10
        by_cases ha : a1 = 0
        · subst ha
          have HRE := Lib.hid (show R = ((s, 0), (A2, L1)) by rw [HRU.out, if_neg (by simp)])
          go_wp2_with fail
          go_ret2
          exact ⟨by rw [HRE.out]; rfl, S10, M8, by rw [HRE.out]; exact HU10.out, HV8.out.right.trans HV10.out.left⟩
        · have ga : ((a1 : Int) != 0) = true := by simpa using ha
          have HRE := Lib.hid (show R = (([], a1), (A2, L1)) by rw [HRU.out, if_pos ha])
          clear ha
          go_wp2_with fail
          go_ret2
          exact ⟨by rw [HRE.out]; rfl, S10, M8, by rw [HRE.out]; exact HU10.out, HV8.out.right.trans HV10.out.left⟩
     · have gz : ((z1 : Int) != 0) = true := by simpa using hz1
       have HRE := Lib.hid (show R = (([], z1), (u, L1)) by rw [HRT.out, if_pos hz1])
       clear hz1
       go_wp2_with fail
       go_ret2
       exact ⟨by rw [HRE.out]; rfl, S, M8, by rw [HRE.out]; exact HU8.out, HV8.out.right⟩
 · skip
   obtain ⟨V1, hV1⟩ : ∃ X, X = (w0.alloc (.cells dsZ 45)).drew := ⟨_, rfl⟩
   have hgV1 : V1.heap[w0.heap.size]? = some (.cells dsZ 45 (0, 0)) := by rw [hV1]; exact heap_alloc_new w0 _
   have hbV1 : Below w0.heap.size w0 V1 := by rw [hV1]; exact (Below.refl w0.heap.size w0).trans ((box_below0 w0 dsZ 45).drew.mono (Below.refl w0.heap.size w0).size)
   have HGV1 := Lib.hid hgV1
   have HBV1 := Lib.hid hbV1
   have HEV1 := Lib.hid hV1
   clear hV1 hgV1 hbV1
   go_simp
   rw [← HEV1.out]
   refine hK.out _ _ (HF.out V1 HBV1.out) (fun hHeld => ?_)
   clear hK K
   try simp only [lay]
   refine rd1 6 fun K hK => ?_
   go_simp
   (try go_wp2_with fail)
   refine (HSET.out V1 (HBV1.out)).mono ?_
   rintro e V2 ⟨rfl, hbq⟩
   have hbV2 : Below w0.heap.size w0 V2 := (HBV1.out).trans (hbq.mono (HBV1.out).size)
   have HBV2 := Lib.hid hbV2
   have HGG := Lib.hid (heap_below hbq (lt_of_block HGV1.out) HGV1.out)
   clear hbq
   refine hK.out _ _ (HF.out V2 hbV2) (fun hHeld => ?_)
   clear hbV2 hK K
   try simp only [lay]
   refine tk 7 (.tuple #[.agg (dsv z 0 fmt len blk), .slice none 0 0, .int .i64 0]) 21 ?_
   refine tk 8 (.agg (dsv z 0 fmt len blk)) 29 ?_
   refine tk 9 (.slice none 0 0) 30 ?_
   refine tk 10 (.int .i64 0) 31 ?_
   have HDL := Lib.hid (Nat.le_refl w0.heap.size)
   have hst := storeDs_at (z := z) (org := 0) (fmt := fmt) (len := len) (blk := blk) HGG.out rfl
   have hz3 := setRow_heap _ _ _ (dsv z 0 fmt len blk) _ _ HGG.out
   have hb3 := below_setRow (g := w0.heap.size) HBV2.out HDL.out (dsv z 0 fmt len blk)
   obtain ⟨V3, hV3⟩ : ∃ X, X = V2.setRow w0.heap.size (dsv z 0 fmt len blk) := ⟨_, rfl⟩
   rw [← hV3] at hst hz3 hb3
   have HD3 := Lib.hid hz3
   have HB3 := Lib.hid hb3
   clear hz3 hb3 hV3
   refine rd1 12 fun K hK => ?_
   go_simp
   (try go_wp2_with fail)
   refine hK.out _ _ (HF.out V3 HB3.out) (fun hHeld => ?_)
   clear hK K
   try simp only [lay]
   refine tk 13 (.slice none 0 0) 7 ?_
   refine tk 14 (.int .i64 0) 8 ?_
   refine wpAnyH_done (by kernel_rfl) ?_ _
   clear hst
   obtain ⟨D, hDe⟩ : ∃ X, X = w0.heap.size := ⟨_, rfl⟩
   have HDG := Lib.hid (show w.heap.size ≤ D by rw [hDe]; have := HDL.out; have := HS0.out; omega)
   rw [← hDe] at HD3 ⊢
   clear hDe
   have HX3 := Lib.hid (heap_below HB3.out (lt_of_block HX.out) HX.out)
   have k0 := cell_at (i := 0) (v := .int .i64 c.kind) HX3.out rfl
   rw [HKD.out] at k0
   have d1 := cell_at (i := 1) (v := .int .i64 0) HD3.out rfl
   have d11 := cell_at (i := 11) (v := .int .i64 z.base) HD3.out rfl
   rw [HZB.out] at d11
   have ldD := loadDs_at HD3.out rfl
   have HCP := Lib.hid (complete_no V3 w.heap.size c z 0 fmt len blk HX3.out (Or.inl (by decide)))
   go_wp2_with fail
   refine HCP.out.mono ?_
   rintro e V4 ⟨rfl, hb4⟩
   have HB4 := Lib.hid (HB3.out.trans (hb4.mono HB3.out.size))
   have HX4 := Lib.hid (heap_below hb4 (lt_of_block HX3.out) HX3.out)
   have HD4 := Lib.hid (heap_below hb4 (lt_of_block HD3.out) HD3.out)
   clear hb4 k0 d1 d11 ldD
   have ldX4 := loadCh_at HX4.out rfl
   have HV := Lib.hid (show Calls Tryz.prog 140 #[.agg c.cs] V4 fun e w' => e = .returned (.bool (chV c)) ∧ Below V4.heap.size V4 w' from cvalid_any c.kind c.id c.key c.dat c.vol V4 HCL.out.k64 (by have := HCL.out.len; omega) (by have := HCL.out.len; omega) (by have := HCL.out.len; omega))
   cases hv : chV c with
   | false =>
     rw [hv] at HV
     have HRE := Lib.hid (show R = (([], 1), (u, L)) by rw [HR.out, if_pos hv])
     clear hv
     go_wp2_with fail
     refine HV.out.mono ?_
     rintro e V5 ⟨rfl, hb5⟩
     have HB5 := Lib.hid (HB0.out.trans ((HB4.out.trans (hb5.mono HB4.out.size)).mono HB0.out.size))
     clear hb5 ldX4
     go_wp2_with fail
     go_ret2
     exact ⟨by rw [HRE.out]; rfl, S, M, by rw [HRE.out]; exact HU.out.below HB5.out, Mv.of_below HB5.out⟩
   | true =>
     rw [hv] at HV
     have HRT := Lib.hid (show R = (if z1 ≠ 0 then (([], z1), (u, L1)) else (if a1 ≠ 0 then ([], a1) else (s, 0), (A2, L1))) by rw [HR.out, if_neg (by rw [hv]; simp)])
     clear hv
     go_wp2_with fail
     refine HV.out.mono ?_
     rintro e V5 ⟨rfl, hb5⟩
     have HB5 := Lib.hid (HB4.out.trans (hb5.mono HB4.out.size))
     have HX5 := Lib.hid (heap_below hb5 (lt_of_block HX4.out) HX4.out)
     have HD5 := Lib.hid (heap_below hb5 (lt_of_block HD4.out) HD4.out)
     have ldX5 := loadCh_at HX5.out rfl
     have HBw5 := Lib.hid (HB0.out.trans (HB5.out.mono HB0.out.size))
     clear hb5 ldX4
     go_wp2_with fail
     refine (HTG.out V5 HBw5.out).mono ?_
     rintro e V6 ⟨rfl, hb6⟩
     have HB6 := Lib.hid (HB5.out.trans (hb6.mono HB5.out.size))
     have HX6 := Lib.hid (heap_below hb6 (lt_of_block HX5.out) HX5.out)
     have HD6 := Lib.hid (heap_below hb6 (lt_of_block HD5.out) HD5.out)
     clear hb6 ldX5
     obtain ⟨V7, hst7, hz7, hb7⟩ := put_rg V6 ⟨s, [], true⟩
     have HB7 := Lib.hid (HB6.out.trans (hb7.mono HB6.out.size))
     have HX7 := Lib.hid (heap_below hb7 (lt_of_block HX6.out) HX6.out)
     have HD7 := Lib.hid (heap_below hb7 (lt_of_block HD6.out) HD6.out)
     have HBw7 := Lib.hid (HB0.out.trans (HB7.out.mono HB0.out.size))
     have id7 := cell_at (i := 1) (v := .int .i64 c.id) HX7.out rfl
     have ldR := loadRg_at hz7 rfl
     clear hb7 hz7
     go_wp2_with fail
     refine (HL.out V7 HBw7.out).mono ?_
     rintro e V8 ⟨rfl, M8, hm8, hv8⟩
     have HU8 := Lib.hid ((HU.out.below HBw7.out).mg' hm8 hv8)
     have HV8 := Lib.hid ((Mv.of_below HBw7.out).trans hv8)
     have HX8 := Lib.hid (hv8.only.heap HX7.out (HNM.out _ (Nat.le_refl _)))
     have HD8 := Lib.hid (hv8.only.heap HD7.out (HNM.out _ HDG.out))
     clear hm8 hv8 hst7 id7 ldR
     by_cases hz1 : z1 = 0
     · subst hz1
       have HRU := Lib.hid (show R = (if a1 ≠ 0 then ([], a1) else (s, 0), (A2, L1)) by rw [HRT.out, if_neg (by simp)])
       have ldX8 := loadCh_at HX8.out rfl
       have hb9 := box_below0 V8 c.cs 36
       have HA9 := Lib.hid (HADD.out V8 M8 L1 HU8.out)
       obtain ⟨W9, hW9⟩ : ∃ W9, W9 = V8.alloc (.cells c.cs 36) := ⟨_, rfl⟩
       rw [← hW9] at hb9 HA9
       have d19 := cell_at (i := 1) (v := .int .i64 0) (heap_below hb9 (lt_of_block HD8.out) HD8.out) rfl
       have HB9 := Lib.hid hb9
       have HW9 := Lib.hid hW9
       clear hb9 hW9
       go_upto_region 19 with fail
       rw [← HW9.out]
       clear ldX8
       go_wp2_with fail
       clear d19
       go_loopw [111] (fun t wr => t = .int .i64 0 ∧ wr = W9) (fun _ _ => 0)
       case atStart => exact ⟨rfl, rfl⟩
       case round =>
        obtain ⟨rfl, hwr⟩ := hrel
        subst hwr
        go_wp2_with fail
        refine HA9.out.mono ?_
        rintro e W10 ⟨rfl, S10, hu10, hv10⟩
        have HU10 := Lib.hid ((HU8.out.below HB9.out).un' hu10 hv10)
        have HV10 := Lib.hid ((Mv.of_below HB9.out).trans hv10)
        clear hu10 hv10
        by_cases ha : a1 = 0
        · subst ha
          have HRE := Lib.hid (show R = ((s, 0), (A2, L1)) by rw [HRU.out, if_neg (by simp)])
          go_wp2_with fail
          go_ret2
          exact ⟨by rw [HRE.out]; rfl, S10, M8, by rw [HRE.out]; exact HU10.out, HV8.out.right.trans HV10.out.left⟩
        · have ga : ((a1 : Int) != 0) = true := by simpa using ha
          have HRE := Lib.hid (show R = (([], a1), (A2, L1)) by rw [HRU.out, if_pos ha])
          clear ha
          go_wp2_with fail
          go_ret2
          exact ⟨by rw [HRE.out]; rfl, S10, M8, by rw [HRE.out]; exact HU10.out, HV8.out.right.trans HV10.out.left⟩
     · have gz : ((z1 : Int) != 0) = true := by simpa using hz1
       have HRE := Lib.hid (show R = (([], z1), (u, L1)) by rw [HRT.out, if_pos hz1])
       clear hz1
       go_wp2_with fail
       go_ret2
       exact ⟨by rw [HRE.out]; rfl, S, M8, by rw [HRE.out]; exact HU8.out, HV8.out.right⟩
end
end

section
set_option maxRecDepth 100000
set_option maxHeartbeats 4000000
set_option linter.unusedSimpArgs false
set_option linter.unusedVariables false
open Go.RowKit Go.Sort
theorem DoE.back {R : (By × Int) × (Un × Ls)} {S M : List Nat} {p m : Nat} {bv : Value} {w V w' : World} {e e' : Ending} (h : DoE R S M p m bv V e' w') (hb : Below w.heap.size w V) (he : e = .returned (.tuple (getT R.1))) : DoE R S M p m bv w e w' := by
 obtain ⟨_, S', M', h1, h2⟩ := h
 exact ⟨he, S', M', h1, (Mv.of_below hb).trans h2⟩
section
attribute [local go_sem ↓] loadCh_down storeCh_down
theorem udo_rec (w : World) (S M : List Nat) (p m : Nat) (bv : Value) (c : Ch) (R : (By × Int) × (Un × Ls)) (hk : c.kind = 0 ∨ c.kind = 1 ∨ c.kind = 2 ∨ c.kind = 3) (hR : ∀ V, Below w.heap.size w V → Calls Tryz.prog 88 #[.pointer (some ⟨p, 0, none⟩), .agg c.cs] V fun e w' => DoE R S M p m bv V e w') :
 Calls Tryz.prog 39 #[.pointer (some ⟨p, 0, none⟩), .agg c.cs] w fun e w' => DoE R S M p m bv w e w' := by
 obtain ⟨w0, hw0⟩ : ∃ w0, w0 = w.alloc (.cells c.cs 36) := ⟨_, rfl⟩
 have hx : w0.heap[w.heap.size]? = some (.cells c.cs 36 (0, 0)) := by rw [hw0]; exact heap_alloc_new w _
 have hb0 : Below w.heap.size w w0 := by rw [hw0]; exact box_below0 _ _ _
 have HW := Lib.hid hw0
 have HB0 := Lib.hid hb0
 have HR := Lib.hid (hR w0 hb0)
 have ld0 := loadCh_at hx rfl
 have k0 := cell_at (i := 0) (v := .int .i64 c.kind) hx rfl
 clear hw0 hx hb0 hR
 obtain ⟨⟨rk, re⟩, RU⟩ := R
 rcases hk with hk | hk | hk | hk
 · rw [hk] at k0
   clear hk
   go_enter Tryz.func39, Tryz.ntmps39
   go_upto_region 1 with fail
   rw [← HW.out]
   go_wp2_with fail
   refine HR.out.mono ?_
   intro e V1 hE
   have HE := Lib.hid hE
   have he : e = .returned (.tuple #[.string ⟨rk.toArray⟩, .int .i64 re]) := hE.1
   subst he
   clear hE k0 ld0
   go_wp2_with fail
   go_ret2
   exact HE.out.back HB0.out rfl
 · rw [hk] at k0
   clear hk
   go_enter Tryz.func39, Tryz.ntmps39
   go_upto_region 1 with fail
   rw [← HW.out]
   go_wp2_with fail
   refine HR.out.mono ?_
   intro e V1 hE
   have HE := Lib.hid hE
   have he : e = .returned (.tuple #[.string ⟨rk.toArray⟩, .int .i64 re]) := hE.1
   subst he
   clear hE k0 ld0
   go_wp2_with fail
   go_ret2
   exact HE.out.back HB0.out rfl
 · rw [hk] at k0
   clear hk
   go_enter Tryz.func39, Tryz.ntmps39
   go_upto_region 1 with fail
   rw [← HW.out]
   go_wp2_with fail
   refine HR.out.mono ?_
   intro e V1 hE
   have HE := Lib.hid hE
   have he : e = .returned (.tuple #[.string ⟨rk.toArray⟩, .int .i64 re]) := hE.1
   subst he
   clear hE k0 ld0
   go_wp2_with fail
   go_ret2
   exact HE.out.back HB0.out rfl
 · rw [hk] at k0
   clear hk
   go_enter Tryz.func39, Tryz.ntmps39
   go_upto_region 1 with fail
   rw [← HW.out]
   go_wp2_with fail
   refine HR.out.mono ?_
   intro e V1 hE
   have HE := Lib.hid hE
   have he : e = .returned (.tuple #[.string ⟨rk.toArray⟩, .int .i64 re]) := hE.1
   subst he
   clear hE k0 ld0
   go_wp2_with fail
   go_ret2
   exact HE.out.back HB0.out rfl
end
end

section
set_option linter.unusedSimpArgs false
set_option linter.unusedVariables false
open Go.RowKit Go.Sort
/-- How a struct lies, cell by cell. -/
structure EncW {α : Type} (P : Program) (enc : α → Array Value) (t e : TypeId) (z : Nat) : Prop where
 ht : P.underlying t = some (.slice e)
 hi : ∃ i zv, P.info? e = some i ∧ i.zero = some zv ∧ i.size = z ∧ i.bytes ≤ 400 ∧ zv.cells.size = z ∧ 0 < z
 len : ∀ x, (enc x).size = z
 one : ∀ x, ∀ u ∈ (enc x).toList, u.oneCell' = true
section
variable {α : Type} {P : Program} {enc : α → Array Value} {t e : TypeId} {z : Nat}
theorem flatW_get (E : EncW P enc t e z) : ∀ (l : List α) (i : Nat) (hi : i < l.length) (j : Nat), j < z → (flatE enc l)[i * z + j]? = (enc l[i])[j]?
 | x :: l, 0, _, j, hj => by
   have h2 := E.len x
   unfold flatE
   rw [List.flatMap_cons, List.getElem?_append_left (by rw [Array.length_toList, h2]; omega)]
   simp
 | x :: l, i + 1, hi, j, hj => by
   have h2 := E.len x
   have ih := flatW_get E l i (by simpa using hi) j hj
   unfold flatE at ih ⊢
   rw [List.flatMap_cons, List.getElem?_append_right (by rw [Array.length_toList, h2, Nat.add_mul]; omega), Array.length_toList, h2, Nat.add_mul]
   rw [show i * z + 1 * z + j - z = i * z + j by omega, ih]
   rfl
theorem RowE.cellsW (E : EncW P enc t e z) {w : World} {base : Nat} {v : Value} {l : List α} (h : RowE enc e z w base v l) : ∃ a cap, v = .slice a l.length cap ∧ l.length ≤ cap ∧ cap ≤ maxLen ∧
 (l ≠ [] → ∃ g, a = some ⟨g, 0, none⟩ ∧ v.ownBlock = some g ∧ base ≤ g ∧ g < w.heap.size ∧ ∀ i (hi : i < l.length) j u, (enc l[i])[j]? = some u → w.cell? ⟨g, i * z + j, none⟩ = some u) := by
 rcases h.2 with ⟨rfl, hn⟩ | ⟨g, cap, cur, rfl, hbase, hblk, q1, q2, q3, q4⟩
 · have : l = [] := List.length_eq_zero_iff.1 (by simpa using hn)
   subst this; exact ⟨none, 0, rfl, Nat.le_refl _, by simp, fun h => absurd rfl h⟩
 · refine ⟨_, cap, rfl, q1, q2, fun _ => ⟨g, rfl, rfl, hbase, lt_of_block hblk, fun i hi j u hu => ?_⟩⟩
   have hj : j < z := by
    have := (Array.getElem?_eq_some_iff.1 hu).1
    rwa [E.len] at this
   have e1 := flatW_get E l i hi j hj
   rw [← q4, List.getElem?_take, if_pos (by
    have : i * z + z ≤ l.length * z := by rw [← Nat.succ_mul]; exact Nat.mul_le_mul_right _ hi
    omega)] at e1
   rw [cell_of_row w g _ cur e (0, 0) hblk]
   rw [hu] at e1
   simpa using e1
theorem RowE.spellW (E : EncW P enc t e z) {w : World} {base : Nat} {v : Value} {l : List α} (h : RowE enc e z w base v l) : ∃ a cap, v = .slice a l.length cap := by
 obtain ⟨a, cap, hv, _⟩ := h.cellsW E
 exact ⟨a, cap, hv⟩
/-- An append of one struct that lies in a block of its own. -/
theorem run_append_oneW (E : EncW P enc t e z) (w : World) (base : Nat) (ty : TypeId) (v : Value) (l : List α) (x : α) (hown : RowE enc e z w base v l) (g : Nat) {cs : Array Value} {t' : TypeId} {fr : Nat × Nat} (hg : w.heap[g]? = some (.cells cs t' fr)) (hcs : cs = enc x) (hlen : l.length ≤ 1000000) (hbase : base ≤ w.heap.size) :
 ∃ v' w', (Builtin.append_ #[t, t] ty #[v, .slice (some ⟨g, 0, none⟩) 1 1]).run P w = .ok v' w' ∧ RowE enc e z w' base v' (l ++ [x]) ∧ w.grownBy w' v.ownBlock ∧ (v'.ownBlock = v.ownBlock ∨ v'.ownBlock = some w.heap.size) := by
 subst hcs
 obtain ⟨i, zv, hi, hz, hs, hby, hzs, h0⟩ := E.hi
 obtain ⟨v', w', h1, h2, h3, _, h5⟩ := run_append_own_at (P := P) (w := w) base t ty e i zv z i.bytes E.ht hi hz hs rfl hzs h0 v l.length (flatE enc l) hown ⟨g, 0, none⟩ 1 1 (enc x).toList (by rw [Array.length_toList, E.len]; omega) (news_at hg) (E.one x) (by simp only [maxLen]; omega) (by
  have : (l.length + 1) * i.bytes ≤ 1000001 * 400 := Nat.mul_le_mul (by omega) hby
  omega) hbase
 refine ⟨v', w', h1, ?_, h3, h5⟩
 show w'.ownsRow base e z v' (l ++ [x]).length (flatE enc (l ++ [x]))
 rw [List.length_append, flatE_app]
 have e1 : flatE enc [x] = (enc x).toList := by simp [flatE]
 rw [e1]
 exact h2
theorem wpList_append_oneW {ops : Array Oper} {rest : List Oper} {o : Oper} {a : Act} {Q : Exit → Act → World → Prop} {w : World} (hgd : o.guard = none) (s x : Operand) (ho : o.op = .call { callee := .builtin .append, args := #[s, x], argTypes := #[t, t] }) (E : EncW P enc t e z)
 (base : Nat) (v : Value) (l : List α) (y : α) (hs : a.eval s = v) (hown : RowE enc e z w base v l) (g : Nat) {cs : Array Value} {t' : TypeId} {fr : Nat × Nat} (hx : a.eval x = .slice (some ⟨g, 0, none⟩) 1 1) (hg : w.heap[g]? = some (.cells cs t' fr)) (hcs : cs = enc y) (hlen : l.length ≤ 1000000) (hbase : base ≤ w.heap.size)
 (h : ∀ v' w', RowE enc e z w' base v' (l ++ [y]) → w.grownBy w' v.ownBlock → (v'.ownBlock = v.ownBlock ∨ v'.ownBlock = some w.heap.size) → wpList P ops Q rest (a.put o.dst v') w') : wpList P ops Q (o :: rest) a w := by
 refine wpList_plain hgd fun K hK => ?_
 obtain ⟨v', w', hr, h2, h3, h4⟩ := run_append_oneW E w base o.type v l y hown g hg hcs hlen hbase
 unfold Oper.wp execOp
 simp only [ho, resolve, invoke, builtin, Sem.run_bind, Sem.run_pure, Result.andThen_ok, List.map_toArray, List.map_cons, List.map_nil, hs, hx, hr]
 exact hK _ _ (h v' w' h2 h3 h4)
end
end

section
set_option maxRecDepth 100000
set_option maxHeartbeats 8000000
set_option linter.unusedSimpArgs false
set_option linter.unusedVariables false
open Go.RowKit Go.Sort
abbrev dsE (x : Co) : Array Value := dsv x.z x.org x.fmt x.len x.blk
theorem encDs : EncW Tryz.prog dsE 61 45 21 := by
 obtain ⟨i, h1, h2, h3, h4⟩ := info_parts (show (Tryz.prog.info? 45).map (fun i => (i.zero, i.size, i.bytes)) = some (some (.agg dsZ), 21, 184) by kernel_rfl)
 exact ⟨Tryz.underlying61, ⟨i, _, h1, h2, h3, by omega, rfl, by omega⟩, fun _ => rfl, fun x u hu => by
  have := (Array.all_eq_true'.1 (ds_one (z := x.z) (org := x.org) (fmt := x.fmt) (len := x.len) (blk := x.blk))) u (by simpa using hu)
  exact this⟩
abbrev DsRow (w : World) (base : Nat) (v : Value) (l : List Co) : Prop := RowE dsE 45 21 w base v l
theorem loadDs_co {w : World} {b o : Nat} {x : Co} (h : CoAt w b o x) : (loadDs ⟨b, o, none⟩).run Tryz.prog w = .ok (.agg (dsE x)) w := by
 refine run_loadVar_mid (P := Tryz.prog) w b o 45 (dsE x).toList _ (fun j v hj => h j v ?_) Tryz.underlying45 rfl (by rw [info_ds]; rfl)
 have hlt : j < 21 := (List.getElem?_eq_some_iff.1 hj).1
 rw [← hj]
 match j, hlt with
 | 0, _ => rfl | 1, _ => rfl | 2, _ => rfl | 3, _ => rfl | 4, _ => rfl | 5, _ => rfl | 6, _ => rfl | 7, _ => rfl | 8, _ => rfl | 9, _ => rfl | 10, _ => rfl
 | 11, _ => rfl | 12, _ => rfl | 13, _ => rfl | 14, _ => rfl | 15, _ => rfl | 16, _ => rfl | 17, _ => rfl | 18, _ => rfl | 19, _ => rfl | 20, _ => rfl
/-- The alternate indexes of a data set. -/
def altsP (id : Int) (cs : List Co) : List Co := cs.filter fun x => decide (x.z.base = id)
theorem altsP_snoc (id : Int) (cs : List Co) (j : Nat) (h : j < cs.length) : altsP id (cs.take (j + 1)) = altsP id (cs.take j) ++ (if cs[j].z.base = id then [cs[j]] else []) := by
 unfold altsP
 rw [tk_snoc cs j h, List.filter_append]
 congr 1
 by_cases e : cs[j].z.base = id
 · simp [e]
 · simp [e]
theorem dsrow_empty (w : World) : DsRow (w.alloc (.cells #[] 45)) w.heap.size (.slice (some ⟨w.heap.size, 0, none⟩) 0 0) [] :=
 ⟨by simp [flatE], Or.inr ⟨w.heap.size, 0, #[], rfl, Nat.le_refl _, heap_alloc_new _ _, Nat.le_refl _, by simp [maxLen], by simp, by simp [flatE]⟩⟩
section
attribute [local go_sem ↓] loadDs_down storeDs_down
theorem alts_w (w : World) (B : Nat) (a : Option Addr) (cap : Nat) (cs : List Co) (id : Int) (h : Cons w B a cs) (hB : B ≤ w.heap.size) (hl : cs.length ≤ 1000000) :
 Calls Tryz.prog 51 #[.slice a cs.length cap, .int .i64 id] w fun e w' => ∃ v, e = .returned v ∧ DsRow w' w.heap.size v (altsP id cs) ∧ Below w.heap.size w w' := by
 have HE := Lib.hid (dsrow_empty w)
 have HBE := Lib.hid (box_below0 w #[] 45)
 have HC := Lib.hid h
 have HBB := Lib.hid hB
 clear h hB
 go_enter Tryz.func51, Tryz.ntmps51
 go_wp2_with fail
 go_loopw [5, 6] (fun v t wr => ∃ j : Nat, j ≤ cs.length ∧ t = .int .i64 j ∧ DsRow wr w.heap.size v (altsP id (cs.take j)) ∧ Below w.heap.size w wr) (fun _ t _ => cs.length - (intOf t).toNat)
 case atStart => exact ⟨0, by omega, rfl, HE.out, HBE.out⟩
 case round =>
  obtain ⟨j, hj, rfl, hrow, hb⟩ := hrel
  have HB := Lib.hid hb
  obtain ⟨va, vc, hv⟩ := RowE.spellW encDs hrow
  subst hv
  have HR := Lib.hid hrow
  by_cases hlt : j < cs.length
  · have hltI : (j : Int) < (cs.length : Int) := by omega
    obtain ⟨b, off, rfl, hbB, hat⟩ := HC.out.get hlt
    have hat2 := hat.below hb (Nat.lt_of_lt_of_le hbB HBB.out)
    have cb : wr.cell? ⟨b, off + j * 23 + 11, none⟩ = some (.int .i64 cs[j].z.base) := hat2 11 _ rfl
    have ld := loadDs_co hat2
    have HSN := Lib.hid (altsP_snoc id cs j hlt)
    have HLN := Lib.hid (show (altsP id (cs.take j)).length ≤ 1000000 from Nat.le_trans (List.length_filter_le _ _) (by rw [List.length_take]; omega))
    clear hb hrow hat hat2 hbB
    generalize altsP id (cs.take j) = X at HR HSN HLN
    generalize cs[j] = x at cb ld HSN
    by_cases he : x.z.base = id
    · rw [if_pos he] at HSN
      have ge : ((x.z.base : Int) == id) = true := by simpa using he
      clear he
      go_wp2_with (at_builtin; go_must (refine wpList_append_oneW rfl _ _ rfl encDs w.heap.size (.slice va X.length vc) X x rfl (RowE.below HR.out (box_below0 _ _ _)) wr.heap.size rfl (heap_alloc_new wr (.cells (dsE x) 45)) rfl ?e1 ?e2 ?_))
      case e1 => exact HLN.out
      case e2 => have := HB.out.size; simp; omega
      intro v' w5 hR5 hg5 _
      have HR5 := Lib.hid (show DsRow w5 w.heap.size v' (altsP id (cs.take (j + 1))) by rw [HSN.out]; exact hR5)
      have HB5 := Lib.hid (show Below w.heap.size w w5 from ((Only.of_below (S := []) (HB.out.trans ((box_below0 wr (dsE x) 45).mono HB.out.size))).grown hg5 (fun x hx => Or.inr (row_own HR.out hx))).to_below)
      clear hR5 hg5 cb ld ge
      go_wp2_with fail
      go_roundw
      case rel => exact ⟨j + 1, by omega, by go_num, HR5.out, HB5.out⟩
      case measure => (simp [intOf]) <;> omega
    · rw [if_neg he, List.append_nil] at HSN
      have ge : ((x.z.base : Int) == id) = false := by simpa using he
      have HR5 := Lib.hid (show DsRow wr w.heap.size (.slice va X.length vc) (altsP id (cs.take (j + 1))) by rw [HSN.out]; exact HR.out)
      clear he
      go_wp2_with fail
      clear cb ld ge
      go_roundw
      case rel => exact ⟨j + 1, by omega, by go_num, HR5.out, HB.out⟩
      case measure => (simp [intOf]) <;> omega
  · have hltI : ¬ (j : Int) < (cs.length : Int) := by omega
    have HR5 := Lib.hid (show DsRow wr w.heap.size (.slice va (altsP id (cs.take j)).length vc) (altsP id cs) by have := HR.out; rwa [show cs.take j = cs from List.take_of_length_le (by omega)] at this ⊢)
    clear hlt hb hrow
    go_wp2_with fail
    clear hltI
    go_ret
    exact ⟨_, rfl, HR5.out, HB.out⟩
end
end

end Go.Proofs.YtcefkngblddpoaaGreatDoor

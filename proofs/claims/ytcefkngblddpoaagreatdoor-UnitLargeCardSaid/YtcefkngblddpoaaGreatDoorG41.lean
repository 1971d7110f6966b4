/-
  Walk: the key and the range of an append, over the empty data set that counts. Condition: the unit lies in memory.
-/
import Derived.Test.YtcefkngblddpoaaGreatDoorG40
namespace Go.Proofs.YtcefkngblddpoaaGreatDoor
set_option maxRecDepth 100000
set_option maxHeartbeats 8000000
set_option linter.unusedSimpArgs false
set_option linter.unusedVariables false
open Go.RowKit Go.Sort
section
attribute [local go_sem ↓] loadCh_down storeCh_down loadRg_down storeRg_down
theorem target_apc (w : World) (k : Uk) (u : Un) (c : Ch) (q : Nat) (h : UnIn w k u) (hbv : k.bv = .iface 97 (.pointer (some ⟨q, 0, none⟩))) (hk : c.kind = 2) (hi : I64 c.id) (hl : (ownOf u c.id).lens.length ≤ 800000) :
 Calls Tryz.prog 144 #[.pointer (some ⟨k.p, 0, none⟩), .agg c.cs] w fun e w' => e = .returned (.tuple #[.string ⟨(slotB ((ownOf u c.id).lens.length + 1)).toArray⟩, .agg #[.string ⟨(slotB ((ownOf u c.id).lens.length + 1)).toArray⟩, .string ⟨#[]⟩, .bool true], .int .i64 0]) ∧ Below w.heap.size w w' := by
 obtain ⟨w0, hw0⟩ : ∃ w0, w0 = w.alloc (.cells c.cs 36) := ⟨_, rfl⟩
 have hx : w0.heap[w.heap.size]? = some (.cells c.cs 36 (0, 0)) := by rw [hw0]; exact heap_alloc_new w _
 have hb0 : Below w.heap.size w w0 := by rw [hw0]; exact box_below0 _ _ _
 have hs0 : w0.heap.size = w.heap.size + 1 := by rw [hw0]; exact World.size_alloc _ _
 obtain ⟨W, hW⟩ : ∃ W, W = w0.alloc (.cells rgZ 58) := ⟨_, rfl⟩
 have hbW : Below w0.heap.size w0 W := by rw [hW]; exact box_below0 _ _ _
 have hzW : W.heap[w.heap.size + 1]? = some (.cells rgZ 58 (0, 0)) := by rw [hW, ← hs0]; exact heap_alloc_new _ _
 have hsW : W.heap.size = w.heap.size + 2 := by rw [hW, World.size_alloc, hs0]
 have hxW := heap_below hbW (lt_of_block hx) hx
 have k0 := cell_at (i := 0) (v := .int .i64 c.kind) hxW rfl
 rw [hk] at k0
 have HWE := Lib.hid (show W = (w.alloc (.cells c.cs 36)).alloc (.cells rgZ 58) by rw [hW, hw0])
 have hbWw := hb0.trans (hbW.mono hb0.size)
 have HB := Lib.hid hbWw
 have HZ := Lib.hid hzW
 have HXW := Lib.hid hxW
 have hU := h.below hbWw
 have HU := Lib.hid hU
 have c4 := cell_at (i := 4) (v := .map (some k.mb)) hU.row rfl
 have hlk := look_os (w := W.drew) (h.below (hbWw.trans ((below_drewN (Below.refl W.heap.size W) 1).mono hbWw.size))) hi
 have HBV := Lib.hid hbv
 have hown : ownOf u c.id = ((alook k.os c.id).map (·.x)).getD ⟨false, [], []⟩ := by unfold ownOf; rw [h.look]
 obtain ⟨Y, hY⟩ : ∃ Y, Y = ownOf u c.id := ⟨_, rfl⟩
 rw [← hY] at hl hown ⊢
 have HLL := Lib.hid hl
 have HOWN := Lib.hid hown
 have HSW := Lib.hid hsW
 clear hx hb0 hs0 hbW hzW hsW hxW hW hw0 w0 hk hbWw hU h hbv hi hl hown hY
 cases ho : alook k.os c.id with
 | some o =>
   rw [ho] at hlk
   simp only [Option.map_some, Option.isSome_some, Option.getD_some] at hlk
   have HO := Lib.hid (show Y = o.x by rw [HOWN.out, ho]; rfl)
   have how := HU.out.at ho
   have HOW := Lib.hid how
   have x0 := cell_at (i := 0) (v := .bool o.x.emp) how.row rfl
   have x2 := cell_at (i := 2) (v := o.lv) how.row rfl
   obtain ⟨la, lc, hlv⟩ := RowE.spell encLn how.lens
   rw [hlv] at x2
   have HNW := Lib.hid (RowE.news encLn (show LnRow W 0 (.slice la o.x.lens.length lc) o.x.lens by rw [← hlv]; exact how.lens)).1
   have HNB := Lib.hid (show ∀ p, la = some p → o.x.lens ≠ [] → p.block < W.heap.size from fun p hp _ => own_lt how.lens (by rw [hlv, hp]; rfl))
   clear how hlv ho HOWN HOW
   go_enter Tryz.func144, Tryz.ntmps144
   go_upto_region 1 with fail
   rw [← HWE.out]
   go_upto_region 5 with fail
   have k1 := cell_at (i := 1) (v := .int .i64 c.id) HXW.out rfl
   refine wp_region_held_drew (S := fun V => V.cell? ⟨k.p, 4, none⟩ = some (.map (some k.mb)) ∧ V.cell? ⟨w.heap.size, 1, none⟩ = some (.int .i64 c.id) ∧ (Instr.lookup 119 (.map (some k.mb)) (.int .i64 c.id) true).run Tryz.prog V = .ok (.tuple #[ptrO o, .bool true]) V) (by kernel_rfl) ⟨c4, k1, hlk⟩ (fun hHeld => ?_)
   refine tk 0 (.pointer (some ⟨k.p, 0, none⟩)) 20 ?_
   refine tk 1 (.pointer (some ⟨k.p, 0, none⟩)) 21 ?_
   refine tk 2 (.pointer (some ⟨k.p, 4, none⟩)) 22 ?_
   refine tk 3 (.map (some k.mb)) 23 ?_
   refine tk 4 (.pointer (some ⟨w.heap.size, 1, none⟩)) 24 ?_
   refine tk 5 (.int .i64 c.id) 25 ?_
   refine tk 6 (.tuple #[ptrO o, .bool true]) 26 ?_
   refine tk 7 (.tuple #[ptrO o, .bool true]) 19 ?_
   refine tk 8 (ptrO o) 27 ?_
   refine tk 9 (.bool true) 28 ?_
   refine tk 10 (ptrO o) 7 ?_
   refine tk 11 (.bool true) 8 ?_
   refine wpAnyH_done (by kernel_rfl) ?_ _
   go_upto_region 8 with fail
   obtain ⟨W1, hW1⟩ : ∃ W1, W1 = W.drew := ⟨_, rfl⟩
   have hb1 : Below W.heap.size W W1 := by rw [hW1]; exact below_drewN (Below.refl W.heap.size W) 1
   rw [← hW1]
   have HB1 := Lib.hid hb1
   have HZ1 := Lib.hid (heap_below hb1 (lt_of_block HZ.out) HZ.out)
   have HBw := Lib.hid (HB.out.trans (hb1.mono HB.out.size))
   have f1 := (hb1.cell (p := ⟨k.p, 1, none⟩) (lt_of_block HU.out.row)).trans (cell_at (i := 1) (v := .iface 97 (.pointer (some ⟨q, 0, none⟩))) HU.out.row (by rw [← HBV.out]; rfl))
   have f2 := (hb1.cell (p := ⟨w.heap.size, 1, none⟩) (lt_of_block HXW.out)).trans (cell_at (i := 1) (v := .int .i64 c.id) HXW.out rfl)
   have f5 := (hb1.cell (p := ⟨w.heap.size, 3, none⟩) (lt_of_block HXW.out)).trans (cell_at (i := 3) (v := .string ⟨c.dat.toArray⟩) HXW.out rfl)
   have f3 := (hb1.cell (p := ⟨o.p, 0, none⟩) (block_lt_of_cell x0)).trans x0
   have f4 := (hb1.cell (p := ⟨o.p, 2, none⟩) (block_lt_of_cell x2)).trans x2
   have HF := Lib.hid (fun (V : World) (hb : Below W1.heap.size W1 V) => And.intro ((hb.cell (p := ⟨k.p, 1, none⟩) (block_lt_of_cell f1)).trans f1) (And.intro ((hb.cell (p := ⟨w.heap.size, 1, none⟩) (block_lt_of_cell f2)).trans f2) (And.intro ((hb.cell (p := ⟨o.p, 0, none⟩) (block_lt_of_cell f3)).trans f3) (And.intro ((hb.cell (p := ⟨o.p, 2, none⟩) (block_lt_of_cell f4)).trans f4) ((hb.cell (p := ⟨w.heap.size, 3, none⟩) (block_lt_of_cell f5)).trans f5)))))
   have HLN := Lib.hid (show o.x.lens.length ≤ 1000000 by have := HLL.out; rw [HO.out] at this; simp at this ⊢; omega)
   have HLL2 := Lib.hid (show o.x.lens.length ≤ 800000 by have := HLL.out; rw [HO.out] at this; simp at this ⊢; omega)
   have HCL := Lib.hid (fun (V : World) (hb : Below W1.heap.size W1 V) => cloneln_w V la lc o.x.lens ((HNW.out.below HNB.out (HB1.out.trans (hb.mono HB1.out.size)))) (fun p hp hne => Nat.lt_of_lt_of_le (HNB.out p hp hne) (HB1.out.trans (hb.mono HB1.out.size)).size) (by have := HLL2.out; omega))
   have HFR := Lib.hid (fun W => from_any (slotB (o.x.lens.length + 1)) W)
   clear x0 x2 hb1 f1 f2 f3 f4 f5 hW1 c4 k0 hlk
   refine wp_region_held_drew (S := fun V => V.cell? ⟨k.p, 1, none⟩ = some (.iface 97 (.pointer (some ⟨q, 0, none⟩))) ∧ V.cell? ⟨w.heap.size, 1, none⟩ = some (.int .i64 c.id) ∧ V.cell? ⟨o.p, 0, none⟩ = some (.bool o.x.emp) ∧ V.cell? ⟨o.p, 2, none⟩ = some (.slice la o.x.lens.length lc) ∧ V.cell? ⟨w.heap.size, 3, none⟩ = some (.string ⟨c.dat.toArray⟩)) (by kernel_rfl) (HF.out W1 (Below.refl _ _)) (fun hHeld => ?_)
   refine tk 0 (.pointer (some ⟨k.p, 0, none⟩)) 34 ?_
   refine tk 1 (.pointer (some ⟨k.p, 0, none⟩)) 35 ?_
   refine tk 2 (.pointer (some ⟨k.p, 1, none⟩)) 36 ?_
   refine tk 3 (.iface 97 (.pointer (some ⟨q, 0, none⟩))) 37 ?_
   refine tk 4 (.pointer (some ⟨w.heap.size, 1, none⟩)) 38 ?_
   refine tk 5 (.int .i64 c.id) 39 ?_
   refine tk 6 (ptrO o) 40 ?_
   refine tk 7 (.pointer (some ⟨o.p, 0, none⟩)) 41 ?_
   refine tk 8 (.pointer (some ⟨o.p, 0, none⟩)) 42 ?_
   refine tk 9 (.bool o.x.emp) 43 ?_
   refine tk 10 (ptrO o) 44 ?_
   refine tk 11 (.pointer (some ⟨o.p, 0, none⟩)) 45 ?_
   refine tk 12 (.pointer (some ⟨o.p, 2, none⟩)) 46 ?_
   refine tk 13 (.slice la o.x.lens.length lc) 47 ?_
   refine tk 15 (.pointer (some ⟨w.heap.size, 3, none⟩)) 49 ?_
   refine tk 16 (.string ⟨c.dat.toArray⟩) 50 ?_
   refine tk 17 (.int .i64 (c.dat.length : Nat)) 51 ?_
   refine tk 20 (.iface 97 (.pointer (some ⟨q, 0, none⟩))) 54 ?_
   refine tk 21 (.iface 97 (.pointer (some ⟨q, 0, none⟩))) 55 ?_
   refine rd2 14 18 (fun K hK => ?_) (fun K hK => ?_)
   · skip
     go_simp
     refine (HCL.out W1.drew (below_drewN (Below.refl W1.heap.size W1) 1)).mono ?_
     rintro e V1 ⟨v1, rfl, hr1, hbq⟩
     have hbV1 : Below W1.heap.size W1 V1 := (below_drewN (Below.refl W1.heap.size W1) 1).trans (hbq.mono (below_drewN (Below.refl W1.heap.size W1) 1).size)
     obtain ⟨va, vc, hvv⟩ := RowE.spell encLn hr1
     subst hvv
     have HRV1 := Lib.hid (show LnRow V1 W1.heap.size (.slice va o.x.lens.length vc) o.x.lens from RowE.mono hr1 (below_drewN (Below.refl W1.heap.size W1) 1).size)
     have HBV1 := Lib.hid hbV1
     clear hr1 hbq
     refine hK.out _ _ (HF.out V1 hbV1) (fun hHeld => ?_)
     clear hbV1 hK K
     try simp only [lay]
     obtain ⟨V2, hV2⟩ : ∃ X, X = V1.alloc (.cells (lnE c.dat.length) 3) := ⟨_, rfl⟩
     have hgV2 : V2.heap[V1.heap.size]? = some (.cells (lnE c.dat.length) 3 (0, 0)) := by rw [hV2]; exact heap_alloc_new V1 _
     have hbV2 : Below W1.heap.size W1 V2 := by rw [hV2]; exact (HBV1.out).trans ((box_below0 V1 (lnE c.dat.length) 3).mono (HBV1.out).size)
     have hbsV2 : Below V1.heap.size V1 V2 := by rw [hV2]; exact (box_below0 V1 (lnE c.dat.length) 3)
     have HGV2 := Lib.hid hgV2
     have HBV2 := Lib.hid hbV2
     have HBSV2 := Lib.hid hbsV2
     have HEV2 := Lib.hid hV2
     clear hV2 hgV2 hbV2 hbsV2
     refine rd1 18 fun K hK => ?_
     go_simp
     rw [← HEV2.out]
     refine hK.out _ _ (HF.out V2 HBV2.out) (fun hHeld => ?_)
     clear hK K
     try simp only [lay]
     have HRR := Lib.hid (RowE.below HRV1.out HBSV2.out)
     have HGG := HGV2
     refine rd1 19 fun K hK => ?_
     refine step_append_one rfl _ _ rfl encLn W1.heap.size (.slice va o.x.lens.length vc) o.x.lens c.dat.length rfl HRR.out V1.heap.size rfl HGG.out rfl HLN.out HBV2.out.size ?_
     rintro v' V3 hrow3 hgr3 _
     obtain ⟨va', vc', hvv⟩ := RowE.spell encLn hrow3
     subst hvv
     have hb3 : Below W1.heap.size W1 V3 := ((Only.of_below (S := []) HBV2.out).grown hgr3 (fun x hx => Or.inr (row_own HRR.out hx))).to_below
     have HB3 := Lib.hid hb3
     have hln : (o.x.lens ++ [c.dat.length]).length = o.x.lens.length + 1 := by simp
     rw [hln]
     clear hln hrow3 hgr3
     have HPL := Lib.hid (cplaces_w V3 q c.id o.x.emp va' (o.x.lens.length + 1) vc' (by have := HLN.out; have := HLL2.out; omega))
     refine hK.out _ _ (HF.out V3 hb3) (fun hHeld => ?_)
     clear hb3 hK K
     try simp only [lay]
     refine rd1 22 fun K hK => ?_
     go_simp
     (try go_wp2_with fail)
     refine HPL.out.mono ?_
     rintro e V4 ⟨vP, rfl, hrP, hbP⟩
     have hb4 : Below W1.heap.size W1 V4 := HB3.out.trans (hbP.mono HB3.out.size)
     have HB4 := Lib.hid hb4
     obtain ⟨pa, pc, hvp, _, _, hcl⟩ := RowE.cells encSt hrP
     rw [slotsTo_len] at hvp
     subst hvp
     obtain ⟨pg, rfl, _, _, _, hcl⟩ := hcl (fun e => by have := congrArg List.length e; rw [slotsTo_len] at this; cases this)
     have hsl : V4.cell? ⟨pg, o.x.lens.length, none⟩ = some (.string ⟨(slotB (o.x.lens.length + 1)).toArray⟩) := by
      have := hcl o.x.lens.length (by rw [slotsTo_len]; omega) 0 (.string ⟨(slotB (o.x.lens.length + 1)).toArray⟩) (by simp [slotsTo])
      rw [Nat.mul_one, Nat.add_zero] at this
      exact this
     have HSL := Lib.hid hsl
     refine hK.out _ _ (HF.out V4 hb4) (fun hHeld => ?_)
     clear hb4 hbP hrP hcl hsl hK K
     try simp only [lay]
     refine tk 23 (.tuple #[.slice (some ⟨pg, 0, none⟩) (o.x.lens.length + 1) pc, .int .i64 0]) 33 ?_
     refine tk 24 (.slice (some ⟨pg, 0, none⟩) (o.x.lens.length + 1) pc) 57 ?_
     refine tk 25 (.int .i64 0) 58 ?_
     refine tk 26 (.slice (some ⟨pg, 0, none⟩) (o.x.lens.length + 1) pc) 9 ?_
     refine tk 27 (.int .i64 0) 10 ?_
     refine wpAnyH_done (by kernel_rfl) ?_ _
     have hsl := HSL.out
     have hnm := HLL2.out
     have hz4 := heap_below HB4.out (lt_of_block HZ1.out) HZ1.out
     go_wp2_with fail
     refine (HFR.out _).mono ?_
     rintro e W5 ⟨rfl, hb5⟩
     have hz5 := heap_below hb5 (lt_of_block hz4) hz4
     have hst := storeRg_at (cs := #[.string ⟨(slotB (o.x.lens.length + 1)).toArray⟩, .string ⟨#[]⟩, .bool true]) hz5 rfl rfl (by simp [Value.oneCell'])
     have hz6 := setRow_heap _ _ _ #[.string ⟨(slotB (o.x.lens.length + 1)).toArray⟩, .string ⟨#[]⟩, .bool true] _ _ hz5
     have hb6 := below_setRow (g := w.heap.size + 1) (HBw.out.trans ((HB4.out.trans (hb5.mono HB4.out.size)).mono HBw.out.size)) (by omega) #[.string ⟨(slotB (o.x.lens.length + 1)).toArray⟩, .string ⟨#[]⟩, .bool true]
     obtain ⟨W6, hW6⟩ : ∃ W6, W6 = W5.setRow (w.heap.size + 1) #[.string ⟨(slotB (o.x.lens.length + 1)).toArray⟩, .string ⟨#[]⟩, .bool true] := ⟨_, rfl⟩
     rw [← hW6] at hst hz6 hb6
     have HZ6 := Lib.hid hz6
     have HB6 := Lib.hid hb6
     clear hb5 hz5 hz6 hb6 hW6 hsl hz4
     go_wp2_with fail
     exact ret_krg rfl rfl rfl rfl rfl rfl HZ6.out ⟨by rw [HO.out]; rfl, HB6.out⟩
   · skip
     obtain ⟨V1, hV1⟩ : ∃ X, X = (W1.alloc (.cells (lnE c.dat.length) 3)).drew := ⟨_, rfl⟩
     have hgV1 : V1.heap[W1.heap.size]? = some (.cells (lnE c.dat.length) 3 (0, 0)) := by rw [hV1]; exact heap_alloc_new W1 _
     have hbV1 : Below W1.heap.size W1 V1 := by rw [hV1]; exact (Below.refl W1.heap.size W1).trans ((box_below0 W1 (lnE c.dat.length) 3).drew.mono (Below.refl W1.heap.size W1).size)
     have hbsV1 : Below W1.heap.size W1 V1 := by rw [hV1]; exact (box_below0 W1 (lnE c.dat.length) 3).drew
     have HGV1 := Lib.hid hgV1
     have HBV1 := Lib.hid hbV1
     have HBSV1 := Lib.hid hbsV1
     have HEV1 := Lib.hid hV1
     clear hV1 hgV1 hbV1 hbsV1
     go_simp
     rw [← HEV1.out]
     refine hK.out _ _ (HF.out V1 HBV1.out) (fun hHeld => ?_)
     clear hK K
     try simp only [lay]
     refine rd1 14 fun K hK => ?_
     go_simp
     refine (HCL.out V1 (HBV1.out)).mono ?_
     rintro e V2 ⟨v1, rfl, hr1, hbq⟩
     have hbV2 : Below W1.heap.size W1 V2 := (HBV1.out).trans (hbq.mono (HBV1.out).size)
     obtain ⟨va, vc, hvv⟩ := RowE.spell encLn hr1
     subst hvv
     have HRV2 := Lib.hid (show LnRow V2 W1.heap.size (.slice va o.x.lens.length vc) o.x.lens from RowE.mono hr1 (HBV1.out).size)
     have HBV2 := Lib.hid hbV2
     have HGK := Lib.hid (heap_below hbq (lt_of_block HGV1.out) HGV1.out)
     clear hr1 hbq
     refine hK.out _ _ (HF.out V2 hbV2) (fun hHeld => ?_)
     clear hbV2 hK K
     try simp only [lay]
     have HRR := HRV2
     have HGG := HGK
     refine rd1 19 fun K hK => ?_
     refine step_append_one rfl _ _ rfl encLn W1.heap.size (.slice va o.x.lens.length vc) o.x.lens c.dat.length rfl HRR.out W1.heap.size rfl HGG.out rfl HLN.out HBV2.out.size ?_
     rintro v' V3 hrow3 hgr3 _
     obtain ⟨va', vc', hvv⟩ := RowE.spell encLn hrow3
     subst hvv
     have hb3 : Below W1.heap.size W1 V3 := ((Only.of_below (S := []) HBV2.out).grown hgr3 (fun x hx => Or.inr (row_own HRR.out hx))).to_below
     have HB3 := Lib.hid hb3
     have hln : (o.x.lens ++ [c.dat.length]).length = o.x.lens.length + 1 := by simp
     rw [hln]
     clear hln hrow3 hgr3
     have HPL := Lib.hid (cplaces_w V3 q c.id o.x.emp va' (o.x.lens.length + 1) vc' (by have := HLN.out; have := HLL2.out; omega))
     refine hK.out _ _ (HF.out V3 hb3) (fun hHeld => ?_)
     clear hb3 hK K
     try simp only [lay]
     refine rd1 22 fun K hK => ?_
     go_simp
     (try go_wp2_with fail)
     refine HPL.out.mono ?_
     rintro e V4 ⟨vP, rfl, hrP, hbP⟩
     have hb4 : Below W1.heap.size W1 V4 := HB3.out.trans (hbP.mono HB3.out.size)
     have HB4 := Lib.hid hb4
     obtain ⟨pa, pc, hvp, _, _, hcl⟩ := RowE.cells encSt hrP
     rw [slotsTo_len] at hvp
     subst hvp
     obtain ⟨pg, rfl, _, _, _, hcl⟩ := hcl (fun e => by have := congrArg List.length e; rw [slotsTo_len] at this; cases this)
     have hsl : V4.cell? ⟨pg, o.x.lens.length, none⟩ = some (.string ⟨(slotB (o.x.lens.length + 1)).toArray⟩) := by
      have := hcl o.x.lens.length (by rw [slotsTo_len]; omega) 0 (.string ⟨(slotB (o.x.lens.length + 1)).toArray⟩) (by simp [slotsTo])
      rw [Nat.mul_one, Nat.add_zero] at this
      exact this
     have HSL := Lib.hid hsl
     refine hK.out _ _ (HF.out V4 hb4) (fun hHeld => ?_)
     clear hb4 hbP hrP hcl hsl hK K
     try simp only [lay]
     refine tk 23 (.tuple #[.slice (some ⟨pg, 0, none⟩) (o.x.lens.length + 1) pc, .int .i64 0]) 33 ?_
     refine tk 24 (.slice (some ⟨pg, 0, none⟩) (o.x.lens.length + 1) pc) 57 ?_
     refine tk 25 (.int .i64 0) 58 ?_
     refine tk 26 (.slice (some ⟨pg, 0, none⟩) (o.x.lens.length + 1) pc) 9 ?_
     refine tk 27 (.int .i64 0) 10 ?_
     refine wpAnyH_done (by kernel_rfl) ?_ _
     have hsl := HSL.out
     have hnm := HLL2.out
     have hz4 := heap_below HB4.out (lt_of_block HZ1.out) HZ1.out
     go_wp2_with fail
     refine (HFR.out _).mono ?_
     rintro e W5 ⟨rfl, hb5⟩
     have hz5 := heap_below hb5 (lt_of_block hz4) hz4
     have hst := storeRg_at (cs := #[.string ⟨(slotB (o.x.lens.length + 1)).toArray⟩, .string ⟨#[]⟩, .bool true]) hz5 rfl rfl (by simp [Value.oneCell'])
     have hz6 := setRow_heap _ _ _ #[.string ⟨(slotB (o.x.lens.length + 1)).toArray⟩, .string ⟨#[]⟩, .bool true] _ _ hz5
     have hb6 := below_setRow (g := w.heap.size + 1) (HBw.out.trans ((HB4.out.trans (hb5.mono HB4.out.size)).mono HBw.out.size)) (by omega) #[.string ⟨(slotB (o.x.lens.length + 1)).toArray⟩, .string ⟨#[]⟩, .bool true]
     obtain ⟨W6, hW6⟩ : ∃ W6, W6 = W5.setRow (w.heap.size + 1) #[.string ⟨(slotB (o.x.lens.length + 1)).toArray⟩, .string ⟨#[]⟩, .bool true] := ⟨_, rfl⟩
     rw [← hW6] at hst hz6 hb6
     have HZ6 := Lib.hid hz6
     have HB6 := Lib.hid hb6
     clear hb5 hz5 hz6 hb6 hW6 hsl hz4
     go_wp2_with fail
     exact ret_krg rfl rfl rfl rfl rfl rfl HZ6.out ⟨by rw [HO.out]; rfl, HB6.out⟩
 | none =>
   rw [ho] at hlk
   simp only [Option.map_none, Option.isSome_none, Option.getD_none] at hlk
   have HO := Lib.hid (show Y = ⟨false, [], []⟩ by rw [HOWN.out, ho]; rfl)
   clear ho HOWN
   go_enter Tryz.func144, Tryz.ntmps144
   go_upto_region 1 with fail
   rw [← HWE.out]
   go_upto_region 5 with fail
   have k1 := cell_at (i := 1) (v := .int .i64 c.id) HXW.out rfl
   refine wp_region_held_drew (S := fun V => V.cell? ⟨k.p, 4, none⟩ = some (.map (some k.mb)) ∧ V.cell? ⟨w.heap.size, 1, none⟩ = some (.int .i64 c.id) ∧ (Instr.lookup 119 (.map (some k.mb)) (.int .i64 c.id) true).run Tryz.prog V = .ok (.tuple #[.pointer none, .bool false]) V) (by kernel_rfl) ⟨c4, k1, hlk⟩ (fun hHeld => ?_)
   refine tk 0 (.pointer (some ⟨k.p, 0, none⟩)) 20 ?_
   refine tk 1 (.pointer (some ⟨k.p, 0, none⟩)) 21 ?_
   refine tk 2 (.pointer (some ⟨k.p, 4, none⟩)) 22 ?_
   refine tk 3 (.map (some k.mb)) 23 ?_
   refine tk 4 (.pointer (some ⟨w.heap.size, 1, none⟩)) 24 ?_
   refine tk 5 (.int .i64 c.id) 25 ?_
   refine tk 6 (.tuple #[.pointer none, .bool false]) 26 ?_
   refine tk 7 (.tuple #[.pointer none, .bool false]) 19 ?_
   refine tk 8 (.pointer none) 27 ?_
   refine tk 9 (.bool false) 28 ?_
   refine tk 10 (.pointer none) 7 ?_
   refine tk 11 (.bool false) 8 ?_
   refine wpAnyH_done (by kernel_rfl) ?_ _
   obtain ⟨L, hL⟩ : ∃ L : List Nat, L = [] := ⟨_, rfl⟩
   rw [← hL] at HO
   have HL0 := Lib.hid hL
   clear hL
   go_upto_region 8 with fail
   obtain ⟨W1, hW1⟩ : ∃ W1, W1 = (W.alloc (.cells #[.bool false, .map none, .slice none 0 0] 203)).drew := ⟨_, rfl⟩
   have hb1 : Below W.heap.size W W1 := by rw [hW1]; exact (box_below0 W #[.bool false, .map none, .slice none 0 0] 203).drew
   rw [← hW1]
   have HZ1 := Lib.hid (heap_below hb1 (lt_of_block HZ.out) HZ.out)
   have HBw := Lib.hid (HB.out.trans (hb1.mono HB.out.size))
   have f1 := (hb1.cell (p := ⟨k.p, 1, none⟩) (lt_of_block HU.out.row)).trans (cell_at (i := 1) (v := .iface 97 (.pointer (some ⟨q, 0, none⟩))) HU.out.row (by rw [← HBV.out]; rfl))
   have f2 := (hb1.cell (p := ⟨w.heap.size, 1, none⟩) (lt_of_block HXW.out)).trans (cell_at (i := 1) (v := .int .i64 c.id) HXW.out rfl)
   have f5 := (hb1.cell (p := ⟨w.heap.size, 3, none⟩) (lt_of_block HXW.out)).trans (cell_at (i := 3) (v := .string ⟨c.dat.toArray⟩) HXW.out rfl)
   have hzo : W1.heap[W.heap.size]? = some (.cells #[.bool false, .map none, .slice none 0 0] 203 (0, 0)) := by rw [hW1]; exact heap_alloc_new W _
   have f3 := cell_at (i := 0) (v := .bool false) hzo rfl
   have f4 := cell_at (i := 2) (v := .slice none L.length 0) hzo (by rw [HL0.out]; rfl)
   have HF := Lib.hid (fun (V : World) (hb : Below W1.heap.size W1 V) => And.intro ((hb.cell (p := ⟨k.p, 1, none⟩) (block_lt_of_cell f1)).trans f1) (And.intro ((hb.cell (p := ⟨w.heap.size, 1, none⟩) (block_lt_of_cell f2)).trans f2) (And.intro ((hb.cell (p := ⟨W.heap.size, 0, none⟩) (block_lt_of_cell f3)).trans f3) (And.intro ((hb.cell (p := ⟨W.heap.size, 2, none⟩) (block_lt_of_cell f4)).trans f4) ((hb.cell (p := ⟨w.heap.size, 3, none⟩) (block_lt_of_cell f5)).trans f5)))))
   have HLN := Lib.hid (show L.length ≤ 1000000 by have := HLL.out; rw [HO.out] at this; simp only at this; omega)
   have HLL2 := Lib.hid (show L.length ≤ 800000 by have := HLL.out; rw [HO.out] at this; simp only at this; omega)
   have HCL := Lib.hid (fun (V : World) (hb : Below W1.heap.size W1 V) => cloneln_w V none 0 L (Or.inr ⟨rfl, rfl, HL0.out⟩) (fun p hp _ => by cases hp) (by have := HLL2.out; omega))
   have HFR := Lib.hid (fun W => from_any (slotB (L.length + 1)) W)
   clear hzo hb1 f1 f2 f3 f4 f5 hW1 c4 k0 hlk
   refine wp_region_held_drew (S := fun V => V.cell? ⟨k.p, 1, none⟩ = some (.iface 97 (.pointer (some ⟨q, 0, none⟩))) ∧ V.cell? ⟨w.heap.size, 1, none⟩ = some (.int .i64 c.id) ∧ V.cell? ⟨W.heap.size, 0, none⟩ = some (.bool false) ∧ V.cell? ⟨W.heap.size, 2, none⟩ = some (.slice none L.length 0) ∧ V.cell? ⟨w.heap.size, 3, none⟩ = some (.string ⟨c.dat.toArray⟩)) (by kernel_rfl) (HF.out W1 (Below.refl _ _)) (fun hHeld => ?_)
   refine tk 0 (.pointer (some ⟨k.p, 0, none⟩)) 34 ?_
   refine tk 1 (.pointer (some ⟨k.p, 0, none⟩)) 35 ?_
   refine tk 2 (.pointer (some ⟨k.p, 1, none⟩)) 36 ?_
   refine tk 3 (.iface 97 (.pointer (some ⟨q, 0, none⟩))) 37 ?_
   refine tk 4 (.pointer (some ⟨w.heap.size, 1, none⟩)) 38 ?_
   refine tk 5 (.int .i64 c.id) 39 ?_
   refine tk 6 (.pointer (some ⟨W.heap.size, 0, none⟩)) 40 ?_
   refine tk 7 (.pointer (some ⟨W.heap.size, 0, none⟩)) 41 ?_
   refine tk 8 (.pointer (some ⟨W.heap.size, 0, none⟩)) 42 ?_
   refine tk 9 (.bool false) 43 ?_
   refine tk 10 (.pointer (some ⟨W.heap.size, 0, none⟩)) 44 ?_
   refine tk 11 (.pointer (some ⟨W.heap.size, 0, none⟩)) 45 ?_
   refine tk 12 (.pointer (some ⟨W.heap.size, 2, none⟩)) 46 ?_
   refine tk 13 (.slice none L.length 0) 47 ?_
   refine tk 15 (.pointer (some ⟨w.heap.size, 3, none⟩)) 49 ?_
   refine tk 16 (.string ⟨c.dat.toArray⟩) 50 ?_
   refine tk 17 (.int .i64 (c.dat.length : Nat)) 51 ?_
   refine tk 20 (.iface 97 (.pointer (some ⟨q, 0, none⟩))) 54 ?_
   refine tk 21 (.iface 97 (.pointer (some ⟨q, 0, none⟩))) 55 ?_
   refine rd2 14 18 (fun K hK => ?_) (fun K hK => ?_)
   · skip
     go_simp
     refine (HCL.out W1.drew (below_drewN (Below.refl W1.heap.size W1) 1)).mono ?_
     rintro e V1 ⟨v1, rfl, hr1, hbq⟩
     have hbV1 : Below W1.heap.size W1 V1 := (below_drewN (Below.refl W1.heap.size W1) 1).trans (hbq.mono (below_drewN (Below.refl W1.heap.size W1) 1).size)
     obtain ⟨va, vc, hvv⟩ := RowE.spell encLn hr1
     subst hvv
     have HRV1 := Lib.hid (show LnRow V1 W1.heap.size (.slice va L.length vc) L from RowE.mono hr1 (below_drewN (Below.refl W1.heap.size W1) 1).size)
     have HBV1 := Lib.hid hbV1
     clear hr1 hbq
     refine hK.out _ _ (HF.out V1 hbV1) (fun hHeld => ?_)
     clear hbV1 hK K
     try simp only [lay]
     obtain ⟨V2, hV2⟩ : ∃ X, X = V1.alloc (.cells (lnE c.dat.length) 3) := ⟨_, rfl⟩
     have hgV2 : V2.heap[V1.heap.size]? = some (.cells (lnE c.dat.length) 3 (0, 0)) := by rw [hV2]; exact heap_alloc_new V1 _
     have hbV2 : Below W1.heap.size W1 V2 := by rw [hV2]; exact (HBV1.out).trans ((box_below0 V1 (lnE c.dat.length) 3).mono (HBV1.out).size)
     have hbsV2 : Below V1.heap.size V1 V2 := by rw [hV2]; exact (box_below0 V1 (lnE c.dat.length) 3)
     have HGV2 := Lib.hid hgV2
     have HBV2 := Lib.hid hbV2
     have HBSV2 := Lib.hid hbsV2
     have HEV2 := Lib.hid hV2
     clear hV2 hgV2 hbV2 hbsV2
     refine rd1 18 fun K hK => ?_
     go_simp
     rw [← HEV2.out]
     refine hK.out _ _ (HF.out V2 HBV2.out) (fun hHeld => ?_)
     clear hK K
     try simp only [lay]
     have HRR := Lib.hid (RowE.below HRV1.out HBSV2.out)
     have HGG := HGV2
     refine rd1 19 fun K hK => ?_
     refine step_append_one rfl _ _ rfl encLn W1.heap.size (.slice va L.length vc) L c.dat.length rfl HRR.out V1.heap.size rfl HGG.out rfl HLN.out HBV2.out.size ?_
     rintro v' V3 hrow3 hgr3 _
     obtain ⟨va', vc', hvv⟩ := RowE.spell encLn hrow3
     subst hvv
     have hb3 : Below W1.heap.size W1 V3 := ((Only.of_below (S := []) HBV2.out).grown hgr3 (fun x hx => Or.inr (row_own HRR.out hx))).to_below
     have HB3 := Lib.hid hb3
     have hln : (L ++ [c.dat.length]).length = L.length + 1 := by simp
     rw [hln]
     clear hln hrow3 hgr3
     have HPL := Lib.hid (cplaces_w V3 q c.id false va' (L.length + 1) vc' (by have := HLN.out; have := HLL2.out; omega))
     refine hK.out _ _ (HF.out V3 hb3) (fun hHeld => ?_)
     clear hb3 hK K
     try simp only [lay]
     refine rd1 22 fun K hK => ?_
     go_simp
     (try go_wp2_with fail)
     refine HPL.out.mono ?_
     rintro e V4 ⟨vP, rfl, hrP, hbP⟩
     have hb4 : Below W1.heap.size W1 V4 := HB3.out.trans (hbP.mono HB3.out.size)
     have HB4 := Lib.hid hb4
     obtain ⟨pa, pc, hvp, _, _, hcl⟩ := RowE.cells encSt hrP
     rw [slotsTo_len] at hvp
     subst hvp
     obtain ⟨pg, rfl, _, _, _, hcl⟩ := hcl (fun e => by have := congrArg List.length e; rw [slotsTo_len] at this; cases this)
     have hsl : V4.cell? ⟨pg, L.length, none⟩ = some (.string ⟨(slotB (L.length + 1)).toArray⟩) := by
      have := hcl L.length (by rw [slotsTo_len]; omega) 0 (.string ⟨(slotB (L.length + 1)).toArray⟩) (by simp [slotsTo])
      rw [Nat.mul_one, Nat.add_zero] at this
      exact this
     have HSL := Lib.hid hsl
     refine hK.out _ _ (HF.out V4 hb4) (fun hHeld => ?_)
     clear hb4 hbP hrP hcl hsl hK K
     try simp only [lay]
     refine tk 23 (.tuple #[.slice (some ⟨pg, 0, none⟩) (L.length + 1) pc, .int .i64 0]) 33 ?_
     refine tk 24 (.slice (some ⟨pg, 0, none⟩) (L.length + 1) pc) 57 ?_
     refine tk 25 (.int .i64 0) 58 ?_
     refine tk 26 (.slice (some ⟨pg, 0, none⟩) (L.length + 1) pc) 9 ?_
     refine tk 27 (.int .i64 0) 10 ?_
     refine wpAnyH_done (by kernel_rfl) ?_ _
     have hsl := HSL.out
     have hnm := HLL2.out
     have hz4 := heap_below HB4.out (lt_of_block HZ1.out) HZ1.out
     go_wp2_with fail
     refine (HFR.out _).mono ?_
     rintro e W5 ⟨rfl, hb5⟩
     have hz5 := heap_below hb5 (lt_of_block hz4) hz4
     have hst := storeRg_at (cs := #[.string ⟨(slotB (L.length + 1)).toArray⟩, .string ⟨#[]⟩, .bool true]) hz5 rfl rfl (by simp [Value.oneCell'])
     have hz6 := setRow_heap _ _ _ #[.string ⟨(slotB (L.length + 1)).toArray⟩, .string ⟨#[]⟩, .bool true] _ _ hz5
     have hb6 := below_setRow (g := w.heap.size + 1) (HBw.out.trans ((HB4.out.trans (hb5.mono HB4.out.size)).mono HBw.out.size)) (by omega) #[.string ⟨(slotB (L.length + 1)).toArray⟩, .string ⟨#[]⟩, .bool true]
     obtain ⟨W6, hW6⟩ : ∃ W6, W6 = W5.setRow (w.heap.size + 1) #[.string ⟨(slotB (L.length + 1)).toArray⟩, .string ⟨#[]⟩, .bool true] := ⟨_, rfl⟩
     rw [← hW6] at hst hz6 hb6
     have HZ6 := Lib.hid hz6
     have HB6 := Lib.hid hb6
     clear hb5 hz5 hz6 hb6 hW6 hsl hz4
     go_wp2_with fail
     exact ret_krg rfl rfl rfl rfl rfl rfl HZ6.out ⟨by rw [HO.out]; rfl, HB6.out⟩
   · skip
     obtain ⟨V1, hV1⟩ : ∃ X, X = (W1.alloc (.cells (lnE c.dat.length) 3)).drew := ⟨_, rfl⟩
     have hgV1 : V1.heap[W1.heap.size]? = some (.cells (lnE c.dat.length) 3 (0, 0)) := by rw [hV1]; exact heap_alloc_new W1 _
     have hbV1 : Below W1.heap.size W1 V1 := by rw [hV1]; exact (Below.refl W1.heap.size W1).trans ((box_below0 W1 (lnE c.dat.length) 3).drew.mono (Below.refl W1.heap.size W1).size)
     have hbsV1 : Below W1.heap.size W1 V1 := by rw [hV1]; exact (box_below0 W1 (lnE c.dat.length) 3).drew
     have HGV1 := Lib.hid hgV1
     have HBV1 := Lib.hid hbV1
     have HBSV1 := Lib.hid hbsV1
     have HEV1 := Lib.hid hV1
     clear hV1 hgV1 hbV1 hbsV1
     go_simp
     rw [← HEV1.out]
     refine hK.out _ _ (HF.out V1 HBV1.out) (fun hHeld => ?_)
     clear hK K
     try simp only [lay]
     refine rd1 14 fun K hK => ?_
     go_simp
     refine (HCL.out V1 (HBV1.out)).mono ?_
     rintro e V2 ⟨v1, rfl, hr1, hbq⟩
     have hbV2 : Below W1.heap.size W1 V2 := (HBV1.out).trans (hbq.mono (HBV1.out).size)
     obtain ⟨va, vc, hvv⟩ := RowE.spell encLn hr1
     subst hvv
     have HRV2 := Lib.hid (show LnRow V2 W1.heap.size (.slice va L.length vc) L from RowE.mono hr1 (HBV1.out).size)
     have HBV2 := Lib.hid hbV2
     have HGK := Lib.hid (heap_below hbq (lt_of_block HGV1.out) HGV1.out)
     clear hr1 hbq
     refine hK.out _ _ (HF.out V2 hbV2) (fun hHeld => ?_)
     clear hbV2 hK K
     try simp only [lay]
     have HRR := HRV2
     have HGG := HGK
     refine rd1 19 fun K hK => ?_
     refine step_append_one rfl _ _ rfl encLn W1.heap.size (.slice va L.length vc) L c.dat.length rfl HRR.out W1.heap.size rfl HGG.out rfl HLN.out HBV2.out.size ?_
     rintro v' V3 hrow3 hgr3 _
     obtain ⟨va', vc', hvv⟩ := RowE.spell encLn hrow3
     subst hvv
     have hb3 : Below W1.heap.size W1 V3 := ((Only.of_below (S := []) HBV2.out).grown hgr3 (fun x hx => Or.inr (row_own HRR.out hx))).to_below
     have HB3 := Lib.hid hb3
     have hln : (L ++ [c.dat.length]).length = L.length + 1 := by simp
     rw [hln]
     clear hln hrow3 hgr3
     have HPL := Lib.hid (cplaces_w V3 q c.id false va' (L.length + 1) vc' (by have := HLN.out; have := HLL2.out; omega))
     refine hK.out _ _ (HF.out V3 hb3) (fun hHeld => ?_)
     clear hb3 hK K
     try simp only [lay]
     refine rd1 22 fun K hK => ?_
     go_simp
     (try go_wp2_with fail)
     refine HPL.out.mono ?_
     rintro e V4 ⟨vP, rfl, hrP, hbP⟩
     have hb4 : Below W1.heap.size W1 V4 := HB3.out.trans (hbP.mono HB3.out.size)
     have HB4 := Lib.hid hb4
     obtain ⟨pa, pc, hvp, _, _, hcl⟩ := RowE.cells encSt hrP
     rw [slotsTo_len] at hvp
     subst hvp
     obtain ⟨pg, rfl, _, _, _, hcl⟩ := hcl (fun e => by have := congrArg List.length e; rw [slotsTo_len] at this; cases this)
     have hsl : V4.cell? ⟨pg, L.length, none⟩ = some (.string ⟨(slotB (L.length + 1)).toArray⟩) := by
      have := hcl L.length (by rw [slotsTo_len]; omega) 0 (.string ⟨(slotB (L.length + 1)).toArray⟩) (by simp [slotsTo])
      rw [Nat.mul_one, Nat.add_zero] at this
      exact this
     have HSL := Lib.hid hsl
     refine hK.out _ _ (HF.out V4 hb4) (fun hHeld => ?_)
     clear hb4 hbP hrP hcl hsl hK K
     try simp only [lay]
     refine tk 23 (.tuple #[.slice (some ⟨pg, 0, none⟩) (L.length + 1) pc, .int .i64 0]) 33 ?_
     refine tk 24 (.slice (some ⟨pg, 0, none⟩) (L.length + 1) pc) 57 ?_
     refine tk 25 (.int .i64 0) 58 ?_
     refine tk 26 (.slice (some ⟨pg, 0, none⟩) (L.length + 1) pc) 9 ?_
     refine tk 27 (.int .i64 0) 10 ?_
     refine wpAnyH_done (by kernel_rfl) ?_ _
     have hsl := HSL.out
     have hnm := HLL2.out
     have hz4 := heap_below HB4.out (lt_of_block HZ1.out) HZ1.out
     go_wp2_with fail
     refine (HFR.out _).mono ?_
     rintro e W5 ⟨rfl, hb5⟩
     have hz5 := heap_below hb5 (lt_of_block hz4) hz4
     have hst := storeRg_at (cs := #[.string ⟨(slotB (L.length + 1)).toArray⟩, .string ⟨#[]⟩, .bool true]) hz5 rfl rfl (by simp [Value.oneCell'])
     have hz6 := setRow_heap _ _ _ #[.string ⟨(slotB (L.length + 1)).toArray⟩, .string ⟨#[]⟩, .bool true] _ _ hz5
     have hb6 := below_setRow (g := w.heap.size + 1) (HBw.out.trans ((HB4.out.trans (hb5.mono HB4.out.size)).mono HBw.out.size)) (by omega) #[.string ⟨(slotB (L.length + 1)).toArray⟩, .string ⟨#[]⟩, .bool true]
     obtain ⟨W6, hW6⟩ : ∃ W6, W6 = W5.setRow (w.heap.size + 1) #[.string ⟨(slotB (L.length + 1)).toArray⟩, .string ⟨#[]⟩, .bool true] := ⟨_, rfl⟩
     rw [← hW6] at hst hz6 hb6
     have HZ6 := Lib.hid hz6
     have HB6 := Lib.hid hb6
     clear hb5 hz5 hz6 hb6 hW6 hsl hz4
     go_wp2_with fail
     exact ret_krg rfl rfl rfl rfl rfl rfl HZ6.out ⟨by rw [HO.out]; rfl, HB6.out⟩
end
end Go.Proofs.YtcefkngblddpoaaGreatDoor

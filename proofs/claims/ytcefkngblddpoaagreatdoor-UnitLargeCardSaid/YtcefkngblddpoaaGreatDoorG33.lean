/-
  Walk: a lock is asked for. Condition: the manager lies in memory, the unit does not wait; the queue is empty, or nobody blocks the lock.
  Walks: a unit's waiting ends, its locks are released. Condition: the manager lies in memory, nobody else waits.
  Walks: a manager without locks; a lock is asked for through the law's locker. Condition: the manager lies in memory.
  A unit in memory: its struct, the rows of its changes and reads, its map of what it has changed. No walk, no condition.
-/
import Derived.Test.YtcefkngblddpoaaGreatDoorG31
import Derived.Test.YtcefkngblddpoaaGreatDoorG32
import Derived.Test.YtcefkngblddpoaaGreatDoorG24
namespace Go.Proofs.YtcefkngblddpoaaGreatDoor

section
set_option maxRecDepth 100000
set_option maxHeartbeats 8000000
set_option linter.unusedSimpArgs false
set_option linter.unusedVariables false
open Go.RowKit Go.Sort
theorem idx_none {l : List Lk} {u : Int} (h : ∀ y ∈ l, y.unit ≠ u) : idxL (fun y => decide (y.unit = u)) l 0 = none := by
 have := idxL_any (fun y : Lk => decide (y.unit = u)) l 0
 rw [show l.any (fun y => decide (y.unit = u)) = false from List.any_eq_false.2 (fun y hy => by simpa using h y hy)] at this
 simpa using this
section
attribute [local go_sem ↓] loadLk_down storeLk_down
theorem request_w (w : World) (S : List Nat) (p : Nat) (L : Ls) (x : Lk) (h : MgAt w S p L) (hw : ∀ y ∈ L.queue, y.unit ≠ x.unit) (hqe : L.queue = [] ∨ blkB L x = false) (hf : L.held.length < 900000 ∧ L.queue.length < 900000) :
 Calls Tryz.prog 285 #[.pointer (some ⟨p, 0, none⟩), .agg x.cs] w fun e w' => e = .returned (.int .i64 (reqP L x).1) ∧ ∃ S', MgAt w' S' p (reqP L x).2 ∧ Mv S w S' w' := by
 obtain ⟨k, rfl, rfl, hk⟩ := h
 obtain ⟨W1, hW1⟩ : ∃ W1, W1 = w.alloc (.cells x.cs 60) := ⟨_, rfl⟩
 have hb : Below w.heap.size w W1 := by rw [hW1]; exact box_below0 _ _ _
 have hz : W1.heap[w.heap.size]? = some (.cells x.cs 60 (0, 0)) := by rw [hW1]; exact heap_alloc_new _ _
 have ld := loadLk_at hz rfl
 have HV1 := Lib.hid (lvalid_any x W1)
 have HB := Lib.hid hb
 have HZ := Lib.hid hz
 have HK := Lib.hid hk
 have HW1 := Lib.hid hW1
 have HFEW := Lib.hid hf
 obtain ⟨q, hq⟩ : ∃ q, q = reqP L x := ⟨_, rfl⟩
 rw [← hq]
 unfold reqP at hq
 have HXC := Lib.hid (show x.cs = #[.int .i64 x.unit, .int .i64 x.id, .string ⟨x.rg.lo.toArray⟩, .string ⟨x.rg.hi.toArray⟩, .bool x.rg.en, .bool x.ex] from rfl)
 clear hb hz hk hW1 hf
 cases hlk : lkOk x with
 | false =>
   rw [if_pos hlk] at hq
   rw [hlk] at HV1
   have HQ := Lib.hid hq
   clear hq hlk hw hqe
   go_enter Tryz.func285, Tryz.ntmps285
   go_upto_region 1 with fail
   rw [← HW1.out]
   go_wp2_with fail
   refine HV1.out.mono ?_
   rintro e W2 ⟨rfl, hb2⟩
   have HB2 := Lib.hid (HB.out.trans (hb2.mono HB.out.size))
   clear hb2
   go_wp2_with fail
   go_ret
   exact ⟨by rw [HQ.out]; rfl, _, by rw [HQ.out]; exact ⟨k, rfl, rfl, HK.out.below HB2.out⟩, Mv.of_below HB2.out⟩
 | true =>
   rw [if_neg (by rw [hlk]; simp)] at hq
   rw [hlk] at HV1
   have HLK := Lib.hid hlk
   have HCO := Lib.hid (fun (W : World) (hW : Below w.heap.size w W) => covered_w W k L x (HK.out.below hW))
   cases hcv : covL L.held x with
   | true =>
     rw [if_pos hcv] at hq
     rw [hcv] at HCO
     have HQ := Lib.hid hq
     clear hq hlk hw hqe hcv
     go_enter Tryz.func285, Tryz.ntmps285
     go_upto_region 1 with fail
     rw [← HW1.out]
     go_wp2_with fail
     refine HV1.out.mono ?_
     rintro e W2 ⟨rfl, hb2⟩
     have HB2 := Lib.hid (HB.out.trans (hb2.mono HB.out.size))
     have ld2 := loadLk_at (heap_below hb2 (lt_of_block HZ.out) HZ.out) rfl
     clear hb2 ld
     go_wp2_with fail
     refine (HCO.out _ HB2.out).mono ?_
     rintro e W3 ⟨rfl, hb3⟩
     have HB3 := Lib.hid (HB2.out.trans (hb3.mono HB2.out.size))
     clear hb3 ld2
     go_wp2_with fail
     go_ret
     exact ⟨by rw [HQ.out]; rfl, _, by rw [HQ.out]; exact ⟨k, rfl, rfl, HK.out.below HB3.out⟩, Mv.of_below HB3.out⟩
   | false =>
     rw [if_neg (by rw [hcv]; simp)] at hq
     rw [hcv] at HCO
     have HWA := Lib.hid (fun (W : World) (hW : Below w.heap.size w W) => by
      have := waiting_w W k L x.unit (HK.out.below hW)
      rw [idx_none hw] at this
      exact this)
     simp only [idxV] at HWA
     obtain ⟨_, _, qa, qc, _, hqv, _, hql, _, hq1⟩ := HK.out.cells
     have HBL := Lib.hid (fun (W : World) (hW : Below w.heap.size w W) => blockers_w W k L x qa qc L.queue (HK.out.below hW) HLK.out (hql.below hW) (by have := HFEW.out; omega) (fun y hy => HK.out.ok y (List.mem_append_right _ hy)))
     have HQ1 := Lib.hid hq1
     have HBN := Lib.hid (blkM_nil L x)
     clear hqv hq1 hql hw hlk hcv
     go_enter Tryz.func285, Tryz.ntmps285
     go_upto_region 1 with fail
     rw [← HW1.out]
     go_wp2_with fail
     refine HV1.out.mono ?_
     rintro e W2 ⟨rfl, hb2⟩
     have HB2 := Lib.hid (HB.out.trans (hb2.mono HB.out.size))
     have HZ2 := Lib.hid (heap_below hb2 (lt_of_block HZ.out) HZ.out)
     have ld2 := loadLk_at HZ2.out rfl
     clear hb2 ld
     go_wp2_with fail
     refine (HCO.out _ HB2.out).mono ?_
     rintro e W3 ⟨rfl, hb3⟩
     have HB3 := Lib.hid (HB2.out.trans (hb3.mono HB2.out.size))
     have HZ3 := Lib.hid (heap_below hb3 (lt_of_block HZ2.out) HZ2.out)
     have c30 := cell_at (i := 0) (v := .int .i64 x.unit) HZ3.out rfl
     clear hb3 ld2
     go_wp2_with fail
     refine (HWA.out _ HB3.out).mono ?_
     rintro e W4 ⟨rfl, hb4⟩
     have HB4 := Lib.hid (HB3.out.trans (hb4.mono HB3.out.size))
     have HZ4 := Lib.hid (heap_below hb4 (lt_of_block HZ3.out) HZ3.out)
     have ld4 := loadLk_at (w := W4.drew) HZ4.out rfl
     have hq4 : W4.drew.cell? ⟨k.p, 1, none⟩ = some (.slice qa L.queue.length qc) := (HB4.out.cell (p := ⟨k.p, 1, none⟩) (block_lt_of_cell HQ1.out)).trans HQ1.out
     clear hb4 c30
     go_wp2_with fail
     go_still_tail 6, (by kernel_rfl)
     go_wp2_with fail
     refine (HBL.out _ (below_drewN HB4.out 1)).mono ?_
     rintro e W5 ⟨g, rfl, hg5, hm5, hb5⟩
     have hlen := fun ty => amap_len (P := Tryz.prog) Tryz.underlying108 hm5 ty
     have hb5 : Below W4.heap.size W4 W5 := (below_drewN (Below.refl W4.heap.size W4) 1).trans hb5
     have HB5 := Lib.hid (HB4.out.trans (hb5.mono HB4.out.size))
     have HX5 := Lib.hid (heap_below hb5 (lt_of_block HZ4.out) HZ4.out)
     have HK5 := Lib.hid (HK.out.below HB5.out)
     have HM5 := Lib.hid hm5
     clear hg5 hm5 hb5 ld4 hq4
     cases hbk : blkB L x with
     | false =>
       rw [if_neg (by rw [hbk]; simp)] at hq
       have HQ := Lib.hid hq
       rw [HBN.out.2 hbk] at hlen
       clear hq hbk hqe
       obtain ⟨O, hO⟩ : ∃ O, O = L.held := ⟨_, rfl⟩
       have HO := Lib.hid hO
       obtain ⟨va, vc, hv⟩ := RowE.spell encLk HK5.out.held
       rw [← hO] at hv
       have HV := Lib.hid hv
       have d2 : W5.drew.cell? ⟨k.p, 0, none⟩ = some (.slice va O.length vc) := cell_at (w := W5.drew) (i := 0) HK5.out.row (by rw [← hv]; rfl)
       have dl5 := loadLk_at (w := W5.drew) HX5.out rfl
       obtain ⟨V1, hV1⟩ : ∃ V1, V1 = (W5.alloc (.cells (lkC x) 60)).drew := ⟨_, rfl⟩
       have hb1 : Below W5.heap.size W5 V1 := by rw [hV1]; exact (box_below0 W5 (lkC x) 60).drew
       have HG1 := Lib.hid (show V1.heap[W5.heap.size]? = some (.cells (lkC x) 60 (0, 0)) by rw [hV1]; exact heap_alloc_new W5 _)
       have HE1 := Lib.hid hV1
       have HB1x := Lib.hid hb1
       have HRow1 := Lib.hid (show LkRow V1 0 (.slice va O.length vc) O by rw [← hv, hO]; exact HK5.out.held.below hb1)
       have HLC := Lib.hid (show V1.cell? ⟨k.p, 0, none⟩ = some (.slice va O.length vc) from (hb1.cell (p := ⟨k.p, 0, none⟩) (block_lt_of_cell d2)).trans d2)
       have HLN := Lib.hid (show O.length ≤ 1000000 by rw [hO]; have := HFEW.out; omega)
       have HEnd := Lib.hid (show ∀ (V2 : World) (va' : Option Addr) (vc' : Nat), LkRow V2 0 (.slice va' (O ++ [x]).length vc') (O ++ [x]) → V1.grownBy V2 (Value.slice va O.length vc).ownBlock →
        ((Value.slice va' (O ++ [x]).length vc').ownBlock = (Value.slice va O.length vc).ownBlock ∨ (Value.slice va' (O ++ [x]).length vc').ownBlock = some V1.heap.size) →
        V2.heap[k.p]? = some (.cells #[k.hv, k.qv] 112 (0, 0)) ∧ V2.frozen? ⟨k.p, 0, none⟩ = false ∧ V2.cell? ⟨k.p, 0, none⟩ = some (.slice va O.length vc) ∧
        (Ending.returned (.int .i64 0) = .returned (.int .i64 q.1) ∧ ∃ S', MgAt (V2.setCell ⟨k.p, 0, none⟩ (.slice va' (O.length + 1) vc')) S' k.p q.2 ∧ Mv k.m w S' (V2.setCell ⟨k.p, 0, none⟩ (.slice va' (O.length + 1) vc'))) from fun V2 va' vc' hR2 hg2 how => by
        have hon : Only k.hv.ownBlock.toList W5 V2 := by rw [HV.out]; exact (Only.of_below HB1x.out).grown hg2 (fun y hy => Or.inl (by simp [hy]))
        have hnp : k.p ∉ k.hv.ownBlock.toList := fun hm => HK5.out.ne.1 _ (by simpa using hm) rfl
        have hp2 := hon.heap HK5.out.row hnp
        have hc : V2.cell? ⟨k.p, 0, none⟩ = some (.slice va O.length vc) := by rw [← HV.out]; exact cell_at (i := 0) hp2 rfl
        refine ⟨hp2, frozen_of_row V2 k.p 0 _ _ hp2, hc, by rw [HQ.out], ?_⟩
        have h3 := HK5.out.setH (l := O ++ [x]) hon hR2 (fun y hy => by
         rcases how with e | e
         · exact Or.inl (by rw [HV.out, ← e]; exact hy)
         · rw [e] at hy
           obtain rfl : V1.heap.size = y := Option.some.inj hy
           exact Or.inr HB1x.out.size) (fun y hy => by
         rcases List.mem_append.1 hy with hy | hy
         · rw [HO.out] at hy; exact HK5.out.ok y (by simp [hy])
         · obtain rfl := List.mem_singleton.1 hy; exact HLK.out) (by rw [List.length_append, HO.out]; have := HFEW.out; simp; omega)
        rw [show (O ++ [x]).length = O.length + 1 by simp] at h3
        rw [HQ.out, ← HO.out]
        exact ⟨_, ⟨{ k with hv := .slice va' (O.length + 1) vc' }, rfl, rfl, h3.1⟩, (Mv.of_below HB5.out).trans h3.2⟩)
       clear hv hV1 hb1 hO
       simp only [List.length_nil] at hlen
       go_upto_region 12 with fail
       refine wp_region_held_drew (S := fun _ => True) (by kernel_rfl) trivial (fun hHeld => ?_)
       refine tk 0 (.pointer (some ⟨k.p, 0, none⟩)) 43 ?_
       refine tk 1 (.pointer (some ⟨k.p, 0, none⟩)) 44 ?_
       refine tk 2 (.pointer (some ⟨k.p, 0, none⟩)) 45 ?_
       refine tk 3 (.pointer (some ⟨k.p, 0, none⟩)) 46 ?_
       refine rd2 4 5 (fun K hK => ?_) (fun K hK => ?_)
       · skip
         go_simp
         (try go_wp2_with fail)
         refine hK.out _ _ (trivial) (fun hHeld => ?_)
         clear hK K
         try simp only [lay]
         refine rd1 5 fun K hK => ?_
         go_simp
         (try go_wp2_with fail)
         refine hK.out _ _ (trivial) (fun hHeld => ?_)
         clear hK K
         try simp only [lay]
         refine rd1 6 fun K hK => ?_
         go_simp
         rw [← HE1.out]
         (try go_wp2_with fail)
         refine hK.out _ _ (trivial) (fun hHeld => ?_)
         clear hK K
         try simp only [lay]
         refine rd1 7 fun K hK => ?_
         refine step_append_one rfl _ _ rfl encLk 0 (.slice va O.length vc) O x rfl HRow1.out W5.heap.size rfl HG1.out rfl HLN.out (Nat.zero_le _) ?_
         rintro v' V2 hrow2 hgr2 how2
         obtain ⟨va', vc', rfl⟩ := RowE.spell encLk hrow2
         obtain ⟨hp2, fz2, cl2, hend⟩ := HEnd.out V2 va' vc' hrow2 hgr2 how2
         have HFIN := Lib.hid hend
         have hln : (O ++ [x]).length = O.length + 1 := by simp
         clear hrow2 hgr2 how2 hp2 hend
         try rw [hln]
         clear hln
         refine hK.out _ _ trivial (fun hHeld => ?_)
         clear hK K
         try simp only [lay]
         refine tk 8 (.pointer (some ⟨k.p, 0, none⟩)) 51 ?_
         refine tk 9 (.pointer (some ⟨k.p, 0, none⟩)) 52 ?_
         refine rd1 10 fun K hK => ?_
         go_simp
         (try go_wp2_with fail)
         refine hK.out _ _ (trivial) (fun hHeld => ?_)
         clear hK K
         try simp only [lay]
         refine wpAnyH_done (by kernel_rfl) ?_ _
         clear fz2 cl2
         go_wp2_with fail
         go_ret
         exact HFIN.out
       · skip
         go_simp
         (try go_wp2_with fail)
         refine hK.out _ _ (trivial) (fun hHeld => ?_)
         clear hK K
         try simp only [lay]
         refine rd2 4 6 (fun K hK => ?_) (fun K hK => ?_)
         · skip
           go_simp
           (try go_wp2_with fail)
           refine hK.out _ _ (trivial) (fun hHeld => ?_)
           clear hK K
           try simp only [lay]
           refine rd1 6 fun K hK => ?_
           go_simp
           rw [← HE1.out]
           (try go_wp2_with fail)
           refine hK.out _ _ (trivial) (fun hHeld => ?_)
           clear hK K
           try simp only [lay]
           refine rd1 7 fun K hK => ?_
           refine step_append_one rfl _ _ rfl encLk 0 (.slice va O.length vc) O x rfl HRow1.out W5.heap.size rfl HG1.out rfl HLN.out (Nat.zero_le _) ?_
           rintro v' V2 hrow2 hgr2 how2
           obtain ⟨va', vc', rfl⟩ := RowE.spell encLk hrow2
           obtain ⟨hp2, fz2, cl2, hend⟩ := HEnd.out V2 va' vc' hrow2 hgr2 how2
           have HFIN := Lib.hid hend
           have hln : (O ++ [x]).length = O.length + 1 := by simp
           clear hrow2 hgr2 how2 hp2 hend
           try rw [hln]
           clear hln
           refine hK.out _ _ trivial (fun hHeld => ?_)
           clear hK K
           try simp only [lay]
           refine tk 8 (.pointer (some ⟨k.p, 0, none⟩)) 51 ?_
           refine tk 9 (.pointer (some ⟨k.p, 0, none⟩)) 52 ?_
           refine rd1 10 fun K hK => ?_
           go_simp
           (try go_wp2_with fail)
           refine hK.out _ _ (trivial) (fun hHeld => ?_)
           clear hK K
           try simp only [lay]
           refine wpAnyH_done (by kernel_rfl) ?_ _
           clear fz2 cl2
           go_wp2_with fail
           go_ret
           exact HFIN.out
         · skip
           go_simp
           rw [← HE1.out]
           (try go_wp2_with fail)
           refine hK.out _ _ (trivial) (fun hHeld => ?_)
           clear hK K
           try simp only [lay]
           have dl : V1.cell? ⟨k.p, 0, none⟩ = some (.slice va O.length vc) := HLC.out
           refine rd1 4 fun K hK => ?_
           go_simp
           (try go_wp2_with fail)
           refine hK.out _ _ (trivial) (fun hHeld => ?_)
           clear hK K
           try simp only [lay]
           clear dl
           refine rd1 7 fun K hK => ?_
           refine step_append_one rfl _ _ rfl encLk 0 (.slice va O.length vc) O x rfl HRow1.out W5.heap.size rfl HG1.out rfl HLN.out (Nat.zero_le _) ?_
           rintro v' V2 hrow2 hgr2 how2
           obtain ⟨va', vc', rfl⟩ := RowE.spell encLk hrow2
           obtain ⟨hp2, fz2, cl2, hend⟩ := HEnd.out V2 va' vc' hrow2 hgr2 how2
           have HFIN := Lib.hid hend
           have hln : (O ++ [x]).length = O.length + 1 := by simp
           clear hrow2 hgr2 how2 hp2 hend
           try rw [hln]
           clear hln
           refine hK.out _ _ trivial (fun hHeld => ?_)
           clear hK K
           try simp only [lay]
           refine tk 8 (.pointer (some ⟨k.p, 0, none⟩)) 51 ?_
           refine tk 9 (.pointer (some ⟨k.p, 0, none⟩)) 52 ?_
           refine rd1 10 fun K hK => ?_
           go_simp
           (try go_wp2_with fail)
           refine hK.out _ _ (trivial) (fun hHeld => ?_)
           clear hK K
           try simp only [lay]
           refine wpAnyH_done (by kernel_rfl) ?_ _
           clear fz2 cl2
           go_wp2_with fail
           go_ret
           exact HFIN.out
     | true =>
       rw [if_pos hbk] at hq
       have HQ := Lib.hid hq
       have HQE := Lib.hid (show L.queue = [] from by
        rcases hqe with e | e
        · exact e
        · rw [hbk] at e; cases e)
       have hnz : (blkM L.held x L.queue).length ≠ 0 := fun e => by
        have := HBN.out.1 (List.length_eq_zero_iff.1 e)
        rw [hbk] at this; cases this
       have hnz1 : (((blkM L.held x L.queue).length : Int) == 0) = false := by simp; exact fun e => hnz (by rw [e]; rfl)
       clear hq hbk hqe hnz
       have HRE := Lib.hid (reaches_w W5 k L x.unit g (blkM L.held x L.queue) HK5.out HQE.out (fun y hy => blkM_other L.held x L.queue y hy) HM5.out)
       have c50 := cell_at (i := 0) (v := .int .i64 x.unit) HX5.out rfl
       generalize (blkM L.held x L.queue).length = nb at hlen hnz1
       go_wp2_with fail
       refine HRE.out.mono ?_
       rintro e W6 ⟨rfl, hb6⟩
       have HB6 := Lib.hid (HB5.out.trans (hb6.mono HB5.out.size))
       have HX6 := Lib.hid (heap_below hb6 (lt_of_block HX5.out) HX5.out)
       have HK6 := Lib.hid (HK.out.below HB6.out)
       clear hb6 c50 hlen hnz1
       obtain ⟨O, hO⟩ : ∃ O, O = L.queue := ⟨_, rfl⟩
       have HO := Lib.hid hO
       obtain ⟨va, vc, hv⟩ := RowE.spell encLk HK6.out.queue
       rw [← hO] at hv
       have HV := Lib.hid hv
       have d2 : W6.drew.cell? ⟨k.p, 1, none⟩ = some (.slice va O.length vc) := cell_at (w := W6.drew) (i := 1) HK6.out.row (by rw [← hv]; rfl)
       have dl5 := loadLk_at (w := W6.drew) HX6.out rfl
       obtain ⟨V1, hV1⟩ : ∃ V1, V1 = (W6.alloc (.cells (lkC x) 60)).drew := ⟨_, rfl⟩
       have hb1 : Below W6.heap.size W6 V1 := by rw [hV1]; exact (box_below0 W6 (lkC x) 60).drew
       have HG1 := Lib.hid (show V1.heap[W6.heap.size]? = some (.cells (lkC x) 60 (0, 0)) by rw [hV1]; exact heap_alloc_new W6 _)
       have HE1 := Lib.hid hV1
       have HB1x := Lib.hid hb1
       have HRow1 := Lib.hid (show LkRow V1 0 (.slice va O.length vc) O by rw [← hv, hO]; exact HK6.out.queue.below hb1)
       have HLC := Lib.hid (show V1.cell? ⟨k.p, 1, none⟩ = some (.slice va O.length vc) from (hb1.cell (p := ⟨k.p, 1, none⟩) (block_lt_of_cell d2)).trans d2)
       have HLN := Lib.hid (show O.length ≤ 1000000 by rw [hO]; have := HFEW.out; omega)
       have HEnd := Lib.hid (show ∀ (V2 : World) (va' : Option Addr) (vc' : Nat), LkRow V2 0 (.slice va' (O ++ [x]).length vc') (O ++ [x]) → V1.grownBy V2 (Value.slice va O.length vc).ownBlock →
        ((Value.slice va' (O ++ [x]).length vc').ownBlock = (Value.slice va O.length vc).ownBlock ∨ (Value.slice va' (O ++ [x]).length vc').ownBlock = some V1.heap.size) →
        V2.heap[k.p]? = some (.cells #[k.hv, k.qv] 112 (0, 0)) ∧ V2.frozen? ⟨k.p, 1, none⟩ = false ∧ V2.cell? ⟨k.p, 1, none⟩ = some (.slice va O.length vc) ∧
        (Ending.returned (.int .i64 15) = .returned (.int .i64 q.1) ∧ ∃ S', MgAt (V2.setCell ⟨k.p, 1, none⟩ (.slice va' (O.length + 1) vc')) S' k.p q.2 ∧ Mv k.m w S' (V2.setCell ⟨k.p, 1, none⟩ (.slice va' (O.length + 1) vc'))) from fun V2 va' vc' hR2 hg2 how => by
        have hon : Only k.qv.ownBlock.toList W6 V2 := by rw [HV.out]; exact (Only.of_below HB1x.out).grown hg2 (fun y hy => Or.inl (by simp [hy]))
        have hnp : k.p ∉ k.qv.ownBlock.toList := fun hm => HK6.out.ne.2.1 _ (by simpa using hm) rfl
        have hp2 := hon.heap HK6.out.row hnp
        have hc : V2.cell? ⟨k.p, 1, none⟩ = some (.slice va O.length vc) := by rw [← HV.out]; exact cell_at (i := 1) hp2 rfl
        refine ⟨hp2, frozen_of_row V2 k.p 1 _ _ hp2, hc, by rw [HQ.out], ?_⟩
        have h3 := HK6.out.setQ (l := O ++ [x]) hon hR2 (fun y hy => by
         rcases how with e | e
         · exact Or.inl (by rw [HV.out, ← e]; exact hy)
         · rw [e] at hy
           obtain rfl : V1.heap.size = y := Option.some.inj hy
           exact Or.inr HB1x.out.size) (fun y hy => by
         rcases List.mem_append.1 hy with hy | hy
         · rw [HO.out] at hy; exact HK6.out.ok y (by simp [hy])
         · obtain rfl := List.mem_singleton.1 hy; exact HLK.out) (by rw [List.length_append, HO.out]; have := HFEW.out; simp; omega)
        rw [show (O ++ [x]).length = O.length + 1 by simp] at h3
        rw [HQ.out, ← HO.out]
        exact ⟨_, ⟨{ k with qv := .slice va' (O.length + 1) vc' }, rfl, rfl, h3.1⟩, (Mv.of_below HB6.out).trans h3.2⟩)
       clear hv hV1 hb1 hO
       go_upto_region 16 with fail
       refine wp_region_held_drew (S := fun _ => True) (by kernel_rfl) trivial (fun hHeld => ?_)
       refine tk 0 (.pointer (some ⟨k.p, 0, none⟩)) 59 ?_
       refine tk 1 (.pointer (some ⟨k.p, 0, none⟩)) 60 ?_
       refine tk 2 (.pointer (some ⟨k.p, 0, none⟩)) 61 ?_
       refine tk 3 (.pointer (some ⟨k.p, 1, none⟩)) 62 ?_
       refine rd2 4 5 (fun K hK => ?_) (fun K hK => ?_)
       · skip
         go_simp
         (try go_wp2_with fail)
         refine hK.out _ _ (trivial) (fun hHeld => ?_)
         clear hK K
         try simp only [lay]
         refine rd1 5 fun K hK => ?_
         go_simp
         (try go_wp2_with fail)
         refine hK.out _ _ (trivial) (fun hHeld => ?_)
         clear hK K
         try simp only [lay]
         refine rd1 6 fun K hK => ?_
         go_simp
         rw [← HE1.out]
         (try go_wp2_with fail)
         refine hK.out _ _ (trivial) (fun hHeld => ?_)
         clear hK K
         try simp only [lay]
         refine rd1 7 fun K hK => ?_
         refine step_append_one rfl _ _ rfl encLk 0 (.slice va O.length vc) O x rfl HRow1.out W6.heap.size rfl HG1.out rfl HLN.out (Nat.zero_le _) ?_
         rintro v' V2 hrow2 hgr2 how2
         obtain ⟨va', vc', rfl⟩ := RowE.spell encLk hrow2
         obtain ⟨hp2, fz2, cl2, hend⟩ := HEnd.out V2 va' vc' hrow2 hgr2 how2
         have HFIN := Lib.hid hend
         have hln : (O ++ [x]).length = O.length + 1 := by simp
         clear hrow2 hgr2 how2 hp2 hend
         try rw [hln]
         clear hln
         refine hK.out _ _ trivial (fun hHeld => ?_)
         clear hK K
         try simp only [lay]
         refine tk 8 (.pointer (some ⟨k.p, 0, none⟩)) 67 ?_
         refine tk 9 (.pointer (some ⟨k.p, 1, none⟩)) 68 ?_
         refine rd1 10 fun K hK => ?_
         go_simp
         (try go_wp2_with fail)
         refine hK.out _ _ (trivial) (fun hHeld => ?_)
         clear hK K
         try simp only [lay]
         refine wpAnyH_done (by kernel_rfl) ?_ _
         clear fz2 cl2
         go_wp2_with fail
         go_ret
         exact HFIN.out
       · skip
         go_simp
         (try go_wp2_with fail)
         refine hK.out _ _ (trivial) (fun hHeld => ?_)
         clear hK K
         try simp only [lay]
         refine rd2 4 6 (fun K hK => ?_) (fun K hK => ?_)
         · skip
           go_simp
           (try go_wp2_with fail)
           refine hK.out _ _ (trivial) (fun hHeld => ?_)
           clear hK K
           try simp only [lay]
           refine rd1 6 fun K hK => ?_
           go_simp
           rw [← HE1.out]
           (try go_wp2_with fail)
           refine hK.out _ _ (trivial) (fun hHeld => ?_)
           clear hK K
           try simp only [lay]
           refine rd1 7 fun K hK => ?_
           refine step_append_one rfl _ _ rfl encLk 0 (.slice va O.length vc) O x rfl HRow1.out W6.heap.size rfl HG1.out rfl HLN.out (Nat.zero_le _) ?_
           rintro v' V2 hrow2 hgr2 how2
           obtain ⟨va', vc', rfl⟩ := RowE.spell encLk hrow2
           obtain ⟨hp2, fz2, cl2, hend⟩ := HEnd.out V2 va' vc' hrow2 hgr2 how2
           have HFIN := Lib.hid hend
           have hln : (O ++ [x]).length = O.length + 1 := by simp
           clear hrow2 hgr2 how2 hp2 hend
           try rw [hln]
           clear hln
           refine hK.out _ _ trivial (fun hHeld => ?_)
           clear hK K
           try simp only [lay]
           refine tk 8 (.pointer (some ⟨k.p, 0, none⟩)) 67 ?_
           refine tk 9 (.pointer (some ⟨k.p, 1, none⟩)) 68 ?_
           refine rd1 10 fun K hK => ?_
           go_simp
           (try go_wp2_with fail)
           refine hK.out _ _ (trivial) (fun hHeld => ?_)
           clear hK K
           try simp only [lay]
           refine wpAnyH_done (by kernel_rfl) ?_ _
           clear fz2 cl2
           go_wp2_with fail
           go_ret
           exact HFIN.out
         · skip
           go_simp
           rw [← HE1.out]
           (try go_wp2_with fail)
           refine hK.out _ _ (trivial) (fun hHeld => ?_)
           clear hK K
           try simp only [lay]
           have dl : V1.cell? ⟨k.p, 1, none⟩ = some (.slice va O.length vc) := HLC.out
           refine rd1 4 fun K hK => ?_
           go_simp
           (try go_wp2_with fail)
           refine hK.out _ _ (trivial) (fun hHeld => ?_)
           clear hK K
           try simp only [lay]
           clear dl
           refine rd1 7 fun K hK => ?_
           refine step_append_one rfl _ _ rfl encLk 0 (.slice va O.length vc) O x rfl HRow1.out W6.heap.size rfl HG1.out rfl HLN.out (Nat.zero_le _) ?_
           rintro v' V2 hrow2 hgr2 how2
           obtain ⟨va', vc', rfl⟩ := RowE.spell encLk hrow2
           obtain ⟨hp2, fz2, cl2, hend⟩ := HEnd.out V2 va' vc' hrow2 hgr2 how2
           have HFIN := Lib.hid hend
           have hln : (O ++ [x]).length = O.length + 1 := by simp
           clear hrow2 hgr2 how2 hp2 hend
           try rw [hln]
           clear hln
           refine hK.out _ _ trivial (fun hHeld => ?_)
           clear hK K
           try simp only [lay]
           refine tk 8 (.pointer (some ⟨k.p, 0, none⟩)) 67 ?_
           refine tk 9 (.pointer (some ⟨k.p, 1, none⟩)) 68 ?_
           refine rd1 10 fun K hK => ?_
           go_simp
           (try go_wp2_with fail)
           refine hK.out _ _ (trivial) (fun hHeld => ?_)
           clear hK K
           try simp only [lay]
           refine wpAnyH_done (by kernel_rfl) ?_ _
           clear fz2 cl2
           go_wp2_with fail
           go_ret
           exact HFIN.out
end
end

section
set_option linter.unusedSimpArgs false
set_option linter.unusedVariables false
open Go.RowKit Go.Sort
section
attribute [local go_sem ↓] loadLk_down storeLk_down
end
end

section
set_option maxRecDepth 100000
set_option maxHeartbeats 1000000
set_option linter.unusedSimpArgs false
set_option linter.unusedVariables false
open Go.RowKit Go.Sort
section
attribute [local go_sem ↓] loadLk_down storeLk_down
theorem new0_w (w : World) (a : Option Addr) (c : Nat) : Calls Tryz.prog 11 #[.slice a 0 c] w fun e w' => e = .returned (.pointer (some ⟨w.heap.size, 0, none⟩)) ∧ MgAt w' [w.heap.size] w.heap.size ⟨[], []⟩ ∧ Below w.heap.size w w' := by
 have hb := box_below0 w #[.slice none 0 0, .slice none 0 0] 112
 have hz := heap_alloc_new w (.cells #[.slice none 0 0, .slice none 0 0] 112)
 have HM := Lib.hid (show MgAt (w.alloc (.cells #[.slice none 0 0, .slice none 0 0] 112)) [w.heap.size] w.heap.size ⟨[], []⟩ from
  ⟨⟨w.heap.size, .slice none 0 0, .slice none 0 0⟩, rfl, rfl, hz, RowE.nil _ _, RowE.nil _ _, fun x hx => by simp at hx, ⟨by simp, by simp⟩, ⟨(fun x hx => by cases hx), (fun x hx => by cases hx), (fun x hx => by cases hx)⟩⟩)
 have HB := Lib.hid hb
 clear hb hz
 go_enter Tryz.func11, Tryz.ntmps11
 go_wp2_with fail
 go_loopw [10] (fun t wr => t = .int .i64 0 ∧ wr = w.alloc (.cells #[.slice none 0 0, .slice none 0 0] 112)) (fun _ _ => 0)
 case atStart => exact ⟨rfl, rfl⟩
 case round =>
  obtain ⟨rfl, rfl⟩ := hrel
  go_wp2_with fail
  go_ret
  exact ⟨rfl, HM.out, HB.out⟩
theorem locker_w (w : World) (S : List Nat) (p : Nat) (L : Ls) (x : Lk) (h : MgAt w S p L) (hw : ∀ y ∈ L.queue, y.unit ≠ x.unit) (hqe : L.queue = [] ∨ blkB L x = false) (hf : L.held.length < 900000 ∧ L.queue.length < 900000) :
 Calls Tryz.prog 284 #[.agg #[.pointer (some ⟨p, 0, none⟩)], .agg x.cs] w fun e w' => e = .returned (.int .i64 (reqP L x).1) ∧ ∃ S', MgAt w' S' p (reqP L x).2 ∧ Mv S w S' w' := by
 obtain ⟨W1, hW1⟩ : ∃ W1, W1 = (w.alloc (.cells #[.pointer (some ⟨p, 0, none⟩)] 34)).alloc (.cells x.cs 60) := ⟨_, rfl⟩
 have hb : Below w.heap.size w W1 := by rw [hW1]; exact ((Below.refl _ w).alloc (Nat.le_refl _) _).alloc (by simp) _
 have h1 : W1.heap[w.heap.size]? = some (.cells #[.pointer (some ⟨p, 0, none⟩)] 34 (0, 0)) := by rw [hW1]; exact (halloc _ _ (by simp)).trans (heap_alloc_new _ _)
 have h2 : W1.heap[w.heap.size + 1]? = some (.cells x.cs 60 (0, 0)) := by
  rw [hW1]
  have := heap_alloc_new (w.alloc (.cells #[.pointer (some ⟨p, 0, none⟩)] 34)) (.cells x.cs 60)
  rwa [World.size_alloc] at this
 have c0 := cell_at (i := 0) (v := .pointer (some ⟨p, 0, none⟩)) h1 rfl
 have ld := loadLk_at h2 rfl
 have HR := Lib.hid (request_w W1 S p L x (h.below hb) hw hqe hf)
 have HM := Lib.hid (Mv.of_below (S := S) hb)
 have HW1 := Lib.hid hW1
 generalize reqP L x = q at HR ⊢
 generalize x.cs = xc at HW1 ld HR
 clear hb h1 h2 hW1 h hw hqe hf
 go_enter Tryz.func284, Tryz.ntmps284
 go_upto_region 1 with fail
 rw [← HW1.out]
 go_wp2_with fail
 refine HR.out.mono ?_
 rintro e W2 ⟨rfl, S2, hm2, hv2⟩
 have HM2 := Lib.hid hm2
 have HV2 := Lib.hid hv2
 clear hm2 hv2
 go_wp2_with fail
 go_ret
 exact ⟨rfl, S2, HM2.out, HM.out.trans HV2.out⟩
end
end

section
set_option linter.unusedSimpArgs false
set_option linter.unusedVariables false
open Go.RowKit Go.Sort
abbrev kS (s : By) : Value := .string ⟨s.toArray⟩
def okS (s : By) : Prop := s.length ≤ 9223372036854775807
theorem uStr : Tryz.prog.underlying 9 = some .string := Tryz.underlying9
theorem keyStr : KeyS Tryz.prog 9 kS okS :=
 ⟨fun h => by simpa [kS] using h, Maps.string_keyed uStr, fun {k} hk => ⟨.string k, by
   have : k.length ≤ maxLen := hk
   unfold Go.keyOf
   rw [uStr]
   simp [mapKey, ByteArray.size, this]⟩⟩
abbrev chE (x : Ch) : Array Value := x.cs
theorem encCh : Enc Tryz.prog chE 68 36 5 := by
 obtain ⟨i, h1, h2, h3, h4⟩ := info_parts (show (Tryz.prog.info? 36).map (fun i => (i.zero, i.size, i.bytes)) = some (some (.agg #[.int .i64 0, .int .i64 0, .string ⟨#[]⟩, .string ⟨#[]⟩, .string ⟨#[]⟩]), 5, 64) by kernel_rfl)
 exact ⟨Tryz.underlying68, ⟨i, _, h1, h2, h3, by omega, rfl, by omega⟩, fun _ => rfl, fun x u hu => by simp at hu; rcases hu with rfl | rfl | rfl | rfl | rfl <;> rfl⟩
abbrev ChRow (w : World) (base : Nat) (v : Value) (l : List Ch) : Prop := RowE chE 36 5 w base v l
theorem chs_of_row {w : World} {base : Nat} {v : Value} {l : List Ch} (h : ChRow w base v l) : ∃ a cap, v = .slice a l.length cap ∧ l.length ≤ cap ∧ cap ≤ maxLen ∧ Chs w w.heap.size a l := by
 obtain ⟨a, cap, hv, hc, hm, h2⟩ := h.cells encCh
 refine ⟨a, cap, hv, hc, hm, ⟨fun hl => ?_⟩⟩
 obtain ⟨g, rfl, _, _, hg, hcell⟩ := h2 hl
 refine ⟨g, 0, rfl, hg, fun i hi => ?_⟩
 have hq := fun (j : Nat) (u : Value) => hcell i hi j u
 refine ⟨?_, ?_, ?_, ?_, ?_⟩
 · have := hq 0 _ rfl; simpa using this
 · have := hq 1 _ rfl; simpa using this
 · have := hq 2 _ rfl; simpa using this
 · have := hq 3 _ rfl; simpa using this
 · have := hq 4 _ rfl; simpa using this
abbrev rdE (x : Rd) : Array Value := x.cs
theorem encRd : Enc Tryz.prog rdE 70 91 6 := by
 obtain ⟨i, h1, h2, h3, h4⟩ := info_parts (show (Tryz.prog.info? 91).map (fun i => (i.zero, i.size, i.bytes)) = some (some (.agg #[.int .i64 0, .int .i64 0, .string ⟨#[]⟩, .string ⟨#[]⟩, .string ⟨#[]⟩, .int .i64 0]), 6, 72) by kernel_rfl)
 exact ⟨Tryz.underlying70, ⟨i, _, h1, h2, h3, by omega, rfl, by omega⟩, fun _ => rfl, fun x u hu => by simp at hu; rcases hu with rfl | rfl | rfl | rfl | rfl | rfl <;> rfl⟩
abbrev RdRow (w : World) (base : Nat) (v : Value) (l : List Rd) : Prop := RowE rdE 91 6 w base v l
abbrev lnE (n : Nat) : Array Value := #[.int .i64 n]
theorem encLn : Enc Tryz.prog lnE 81 3 1 := by
 obtain ⟨i, h1, h2, h3, h4⟩ := info_parts (show (Tryz.prog.info? 3).map (fun i => (i.zero, i.size, i.bytes)) = some (some (.int .i64 0), 1, 8) by kernel_rfl)
 exact ⟨Tryz.underlying81, ⟨i, _, h1, h2, h3, by omega, rfl, by omega⟩, fun _ => rfl, fun x u hu => by simp at hu; rcases hu with rfl; rfl⟩
abbrev LnRow (w : World) (base : Nat) (v : Value) (l : List Nat) : Prop := RowE lnE 3 1 w base v l
/-- What the unit sees of a key, as a value. -/
def seenV : Option By → Value
 | none => .agg #[.bool false, .string ⟨#[]⟩]
 | some r => .agg #[.bool true, .string ⟨r.toArray⟩]
abbrev seenZ : Array Value := #[.bool false, .string ⟨#[]⟩]
/-- Where the changes of a data set lie: the struct, the map of keys, the row of lengths; and what they are. -/
structure OwK where
 p : Nat
 kb : Nat
 lv : Value
 x : Ow
instance : Inhabited OwK := ⟨⟨0, 0, .bool false, default⟩⟩
abbrev OwK.m (o : OwK) : List Nat := [o.p, o.kb] ++ o.lv.ownBlock.toList
structure OwIn (w : World) (o : OwK) : Prop where
 row : w.heap[o.p]? = some (.cells #[.bool o.x.emp, .map (some o.kb), o.lv] 203 (0, 0))
 keys : amap w o.kb kS seenV okS o.x.keys
 lens : LnRow w 0 o.lv o.x.lens
abbrev ptrO (o : OwK) : Value := .pointer (some ⟨o.p, 0, none⟩)
/-- Where a unit lies. -/
structure Uk where
 p : Nat
 mb : Nat
 bv : Value
 lv : Value
 cv : Value
 rv : Value
 os : List (Int × OwK)
abbrev Uk.m (k : Uk) : List Nat := [k.p, k.mb] ++ k.cv.ownBlock.toList ++ k.rv.ownBlock.toList ++ k.os.flatMap (fun q => q.2.m)
structure UnIn (w : World) (k : Uk) (u : Un) : Prop where
 row : w.heap[k.p]? = some (.cells #[.int .i64 u.num, k.bv, k.lv, k.cv, .map (some k.mb), k.rv] 121 (0, 0))
 chs : ChRow w 0 k.cv u.chs
 reads : RdRow w 0 k.rv u.reads
 sets : amap w k.mb (Value.int .i64) ptrO I64 k.os
 eq : u.sets = k.os.map (fun q => (q.1, q.2.x))
 owns : ∀ q ∈ k.os, OwIn w q.2
 apart : ∀ a ∈ k.os, a.2.kb ≠ k.mb ∧ ∀ b ∈ k.os, a.1 ≠ b.1 → a.2.p ≠ b.2.p ∧ a.2.kb ≠ b.2.kb ∧ ∀ x, a.2.lv.ownBlock = some x → b.2.lv.ownBlock ≠ some x
 num : 1 ≤ u.num ∧ u.num ≤ 1099511627776
 few : u.chs.length ≤ 1000 ∧ u.reads.length ≤ 900000
/-- A unit in memory, over a base and a locker, which depends on the blocks S. -/
def UnAt (w : World) (S : List Nat) (p : Nat) (bv lv : Value) (u : Un) : Prop := ∃ k : Uk, k.p = p ∧ k.bv = bv ∧ k.lv = lv ∧ S = k.m ∧ UnIn w k u
theorem OwIn.only {w w' : World} {T : List Nat} {o : OwK} (h : OwIn w o) (ho : Only T w w') (hT : ∀ x ∈ o.m, x ∉ T) : OwIn w' o :=
 ⟨ho.heap h.row (hT _ (by simp)), amap_keep h.keys (ho.block _ (amap_lt h.keys) (hT _ (by simp))), h.lens.only ho (fun x hx => hT x (by simp [hx]))⟩
theorem Uk.mem_own {k : Uk} {q : Int × OwK} (hq : q ∈ k.os) {x : Nat} (hx : x ∈ q.2.m) : x ∈ k.m :=
 List.mem_append_right _ (List.mem_flatMap.2 ⟨q, hq, hx⟩)
theorem UnIn.only {w w' : World} {T : List Nat} {k : Uk} {u : Un} (h : UnIn w k u) (ho : Only T w w') (hT : ∀ x ∈ k.m, x ∉ T) : UnIn w' k u :=
 ⟨ho.heap h.row (hT _ (by simp)), h.chs.only ho (fun x hx => hT x (by simp [hx])), h.reads.only ho (fun x hx => hT x (by simp [hx])), amap_keep h.sets (ho.block _ (amap_lt h.sets) (hT _ (by simp))), h.eq,
   fun q hq => (h.owns q hq).only ho (fun x hx => hT x (Uk.mem_own hq hx)), h.apart, h.num, h.few⟩
theorem UnIn.below {w w' : World} {k : Uk} {u : Un} (h : UnIn w k u) (hb : Below w.heap.size w w') : UnIn w' k u := h.only (T := []) (Only.of_below hb) (fun _ _ hm => by cases hm)
theorem UnAt.only {w w' : World} {S T : List Nat} {p : Nat} {bv lv : Value} {u : Un} (h : UnAt w S p bv lv u) (ho : Only T w w') (hT : ∀ x ∈ S, x ∉ T) : UnAt w' S p bv lv u := by
 obtain ⟨k, h1, h2, h3, h4, h5⟩ := h; subst h4; exact ⟨k, h1, h2, h3, rfl, h5.only ho hT⟩
theorem UnAt.below {w w' : World} {S : List Nat} {p : Nat} {bv lv : Value} {u : Un} (h : UnAt w S p bv lv u) (hb : Below w.heap.size w w') : UnAt w' S p bv lv u := h.only (T := []) (Only.of_below hb) (fun _ _ hm => by cases hm)
theorem OwIn.lt {w : World} {o : OwK} (h : OwIn w o) : ∀ x ∈ o.m, x < w.heap.size := by
 intro x hx
 simp only [OwK.m, List.mem_append, List.mem_cons, List.not_mem_nil, or_false] at hx
 rcases hx with (rfl | rfl) | hx
 · exact lt_of_block h.row
 · exact amap_lt h.keys
 · exact own_lt h.lens (by simpa using hx)
theorem UnIn.lt {w : World} {k : Uk} {u : Un} (h : UnIn w k u) : ∀ x ∈ k.m, x < w.heap.size := by
 intro x hx
 simp only [Uk.m, List.mem_append, List.mem_cons, List.not_mem_nil, or_false] at hx
 rcases hx with (((rfl | rfl) | hx) | hx) | hx
 · exact lt_of_block h.row
 · exact amap_lt h.sets
 · exact own_lt h.chs (by simpa using hx)
 · exact own_lt h.reads (by simpa using hx)
 · obtain ⟨q, hq, hx⟩ := List.mem_flatMap.1 hx
   exact (h.owns q hq).lt x hx
theorem UnAt.lt {w : World} {S : List Nat} {p : Nat} {bv lv : Value} {u : Un} (h : UnAt w S p bv lv u) : ∀ x ∈ S, x < w.heap.size := by
 obtain ⟨k, _, _, _, rfl, h5⟩ := h; exact h5.lt
theorem alook_map {κ ν μ : Type} [DecidableEq κ] (f : ν → μ) (m : List (κ × ν)) (k : κ) : alook (m.map (fun q => (q.1, f q.2))) k = (alook m k).map f := by
 induction m with
 | nil => rfl
 | cons p m ih =>
   rw [List.map_cons, alook_cons, alook_cons]
   by_cases h : p.1 = k
   · rw [if_pos h, if_pos h]; rfl
   · rw [if_neg h, if_neg h]; exact ih
/-- What the unit's map says of a data set. -/
theorem UnIn.look {w : World} {k : Uk} {u : Un} (h : UnIn w k u) (id : Int) : alook u.sets id = (alook k.os id).map (·.x) := by rw [h.eq]; exact alook_map _ _ _
theorem UnIn.at {w : World} {k : Uk} {u : Un} (h : UnIn w k u) {id : Int} {o : OwK} (ho : alook k.os id = some o) : OwIn w o := h.owns (id, o) (alook_mem ho)
end

end Go.Proofs.YtcefkngblddpoaaGreatDoor

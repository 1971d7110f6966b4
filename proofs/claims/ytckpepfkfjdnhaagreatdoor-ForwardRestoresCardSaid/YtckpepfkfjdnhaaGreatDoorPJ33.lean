/-
  Walk: what a change that appends a record does to pairs, by the program. Conditions: the description is valid; a row of the call's own; the laid table of segments' codes.
-/
import Derived.Test.YtckpepfkfjdnhaaGreatDoorPV
import Derived.Test.YtckpepfkfjdnhaaGreatDoorPQ
import Derived.Deep.RegionHeld3
namespace Go.Proofs.YtckpepfkfjdnhaaGreatDoor
open Go.RowKit Go.Sort
variable {z : Rest}

/-- The key that an appended record gets. -/
def newK (z : Rest) (org : Int) (l : List Pr) (r : By) : By := if org = 1 then (nextE z.ivl.toNat (behindE z.ivl.toNat l) r).1 else slotB (l.length + 1)
theorem next_len (iv : Nat) (x : En) (r : By) : (nextE iv x r).1.length = 8 := by
 unfold nextE
 split <;> exact slot_len _
theorem newK_len (org : Int) (l : List Pr) (r : By) : (newK z org l r).length = 8 := by
 unfold newK
 split
 · exact next_len _ _ _
 · exact slot_len _
/-- What an append leaves. -/
def appL (z : Rest) (org fmt len : Int) (l : List Pr) (r : By) : Int × List Pr :=
 if dirP org = true then (7, []) else if alP z org fmt len (newK z org l r, r) = false then (2, []) else (0, l ++ [(newK z org l r, r)])

section
attribute [local go_sem ↓] loadDs_down loadPr_down storePr_down
set_option maxRecDepth 100000 in
set_option maxHeartbeats 4000000 in
theorem eappend_any (w : World) (base : Nat) (v : Value) (l : List Pr) (org fmt len blk kind id : Int) (key rec vol : By) (ho : PrRow w base v l) (hb : base ≤ w.heap.size) (hl : l.length ≤ 5000) (hd : descP z org fmt len blk = true) (hc0 : Codes w) (hr : rec.length ≤ 100000) (hkl : ∀ p ∈ l, p.2.length ≤ 100000) :
   Calls Tryz.prog 122 #[.agg (dsv z org fmt len blk), v, .agg (chC kind id key rec vol)] w fun e w' => EffRet base w (appL z org fmt len l rec) e w' := by
 obtain ⟨i0, hi0, hz0, hz1, hz2⟩ := info_parts infoPr
 obtain ⟨W, hW⟩ : ∃ W, W = (w.alloc (.cells (dsv z org fmt len blk) 23)).alloc (.cells (chC kind id key rec vol) 28) := ⟨_, rfl⟩
 have hE : TwoSt w W z org fmt len blk kind id key rec vol := by rw [hW]; exact two_start w org fmt len blk kind id key rec vol
 have HW := Lib.hid hW
 have ld := loadDs_at hE.ds rfl
 have HE := Lib.hid hE
 have HO := Lib.hid ho
 have HCO := Lib.hid (hc0.below hE.bel hc0.pos)
 have HDI := Lib.hid (direct_any (z := z) org fmt len blk W)
 have HPU := Lib.hid (show appL z org fmt len l rec = if dirP org = true then (7, []) else if alP z org fmt len (newK z org l rec, rec) = false then (2, []) else (0, l ++ [(newK z org l rec, rec)]) from rfl)
 have HKL := Lib.hid hkl
 have HNL := Lib.hid (newK_len (z := z) org l rec)
 obtain ⟨a, cap, rfl, hcap, hcm, hP⟩ := prs_of_row ho
 have HS := Lib.hid hP
 have hw1 : IntKind.i64.wrap ((l.length : Int) + 1) = (l.length : Int) + 1 := by rw [IntKind.wrap_i64]; omega
 clear hE ho hP hW hkl
 cases hdi : dirP org with
 | true =>
   rw [hdi] at HDI HPU
   have H := Lib.hid (show appL z org fmt len l rec = (7, []) by rw [HPU.out]; rfl)
   clear hdi
   go_enter Tryz.func122, Tryz.ntmps122
   go_upto_region 1 with fail
   rw [← HW.out]
   go_wp2_with fail
   refine HDI.out.mono ?_
   rintro e w2 ⟨rfl, hb2⟩
   have HB2 := Lib.hid (HE.out.below hb2)
   clear ld hb2
   go_wp2_with fail
   go_ret2
   exact ⟨_, by rw [H.out]; rfl, by rw [H.out]; exact own_nil _ _ _ _, HB2.out.1.mono hb⟩
 | false =>
   rw [hdi] at HDI HPU
   have HPU2 := Lib.hid (show appL z org fmt len l rec = if alP z org fmt len (newK z org l rec, rec) = false then (2, []) else (0, l ++ [(newK z org l rec, rec)]) by rw [HPU.out]; rfl)
   have HDIF := Lib.hid hdi
   clear hdi HPU
   have HOR := Lib.hid (show org = 0 ∨ org = 1 by
     have h0 := desc_org hd
     have h1 := HDIF.out
     unfold dirP at h1
     simp only [Bool.or_eq_false_iff, decide_eq_false_iff_not] at h1
     omega)
   go_enter Tryz.func122, Tryz.ntmps122
   go_upto_region 1 with fail
   rw [← HW.out]
   go_wp2_with fail
   refine HDI.out.mono ?_
   rintro e w2 ⟨rfl, hb2⟩
   have HB2 := Lib.hid (HE.out.below hb2)
   have HSL := Lib.hid (slot_any' (l.length + 1) ((l.length : Int) + 1) (by omega) w2 (by omega))
   clear ld
   go_wp2_with fail
   refine HSL.out.mono ?_
   rintro e w3 ⟨he3, hb3⟩
   obtain rfl : e = .returned (.string ⟨(slotB (l.length + 1)).toArray⟩) := he3
   have hb23 := hb2.trans (hb3.mono hb2.size)
   have HB3 := Lib.hid (HE.out.below hb23)
   have HCO3 := Lib.hid (HCO.out.below hb23 HCO.out.pos)
   have c13 := cell_at (i := 1) (v := .int .i64 org) HB3.out.2.1 rfl
   have c33 := cell_at (i := 3) (v := .string ⟨rec.toArray⟩) HB3.out.2.2 rfl
   clear hb2 hb3 hb23
   rcases HOR.out with ho0 | ho1
   · have e1 : (org == 1) = false := by rw [ho0]; rfl
     have HNK := Lib.hid (show newK z org l rec = slotB (l.length + 1) by unfold newK; rw [if_neg (by omega)])
     generalize slotB (l.length + 1) = kk at HNK ⊢
     clear ho0
     go_upto_region 6 with fail
     clear c13
     have HKK := Lib.hid (show kk.length = 8 by rw [← HNK.out]; exact HNL.out)
     have hz6 := heap_alloc_new w3 (.cells #[.string ⟨#[]⟩, .string ⟨#[]⟩] 46)
     have st6 := storePr_at (x := (kk, rec)) hz6 rfl
     have HP6 := Lib.hid (setRow_heap _ _ _ #[.string ⟨kk.toArray⟩, .string ⟨rec.toArray⟩] _ _ hz6)
     have HB6 := Lib.hid (below_setRow (box_below w3 #[.string ⟨#[]⟩, .string ⟨#[]⟩] 46) (Nat.le_refl _) #[.string ⟨kk.toArray⟩, .string ⟨rec.toArray⟩])
     generalize (w3.alloc (.cells #[.string ⟨#[]⟩, .string ⟨#[]⟩] 46)).setRow w3.heap.size #[.string ⟨kk.toArray⟩, .string ⟨rec.toArray⟩] = w6 at st6 HP6 HB6
     have HBA := Lib.hid (HB3.out.1.trans (HB6.out.mono HB3.out.1.size))
     have ld6 := loadDs_at (heap_below HB6.out (lt_of_block HB3.out.2.1) HB3.out.2.1) rfl
     have lp6 := loadPr_at HP6.out rfl
     have HAL := Lib.hid (allowed49_any (z := z) org fmt len blk (kk, rec) w6 hd (HCO3.out.below HB6.out HCO3.out.pos) (show kk.length ≤ 1000000 by have := HKK.out; omega) (show rec.length ≤ 1000000 by omega))
     clear hz6
     cases hal : alP z org fmt len (kk, rec) with
     | false =>
       rw [hal] at HAL
       have H := Lib.hid (show appL z org fmt len l rec = (2, []) by rw [HPU2.out, HNK.out, hal]; rfl)
       clear hal
       go_wp2_with fail
       refine HAL.out.mono ?_
       rintro e w7 ⟨rfl, hb7⟩
       have HB7 := Lib.hid (HBA.out.trans (hb7.mono HBA.out.size))
       clear st6 ld6 lp6 hb7
       go_wp2_with fail
       go_ret2
       exact ⟨_, by rw [H.out]; rfl, by rw [H.out]; exact own_nil _ _ _ _, HB7.out.mono hb⟩
     | true =>
       rw [hal] at HAL
       have H := Lib.hid (show appL z org fmt len l rec = (0, l ++ [(kk, rec)]) by rw [HPU2.out, HNK.out, hal]; rfl)
       clear hal
       go_wp2_with fail
       refine HAL.out.mono ?_
       rintro e w7 ⟨rfl, hb7⟩
       have HB7 := Lib.hid (HBA.out.trans (hb7.mono HBA.out.size))
       have lp7 := loadPr_at (heap_below hb7 (lt_of_block HP6.out) HP6.out) rfl
       have HO7 := Lib.hid (own_below HO.out (HB7.out.trans ((box_below w7 #[.string ⟨kk.toArray⟩, .string ⟨rec.toArray⟩] 46).mono HB7.out.size)))
       have HBZ := Lib.hid ((HB7.out.trans ((box_below w7 #[.string ⟨kk.toArray⟩, .string ⟨rec.toArray⟩] 46).mono HB7.out.size)).mono hb)
       have HNW := Lib.hid (show ∀ (j : Nat) (u : Value), (encP (kk, rec))[j]? = some u → (w7.alloc (.cells #[.string ⟨kk.toArray⟩, .string ⟨rec.toArray⟩] 46)).cell? ((⟨w7.heap.size, 0, none⟩ : Addr).add j) = some u from news_at (heap_alloc_new w7 _))
       have HSZ := Lib.hid (show base ≤ (w7.alloc (.cells #[.string ⟨kk.toArray⟩, .string ⟨rec.toArray⟩] 46)).heap.size by have := HB7.out.size; simp; omega)
       clear st6 ld6 lp6 hb7
       go_wp2_with (at_builtin; refine wpList_append_own _ rfl _ _ 24 rfl base 46 i0 (.agg #[.string ⟨#[]⟩, .string ⟨#[]⟩]) 2 32 Tryz.underlying24 hi0 hz0 hz1 hz2 rfl (by decide) _ _ _ rfl HO7.out _ 1 _ (encP (kk, rec)) rfl rfl HNW.out (one_prs [(kk, rec)]) ?b3 ?b4 ?b5 ?_)
       case b3 => unfold maxLen; omega
       case b4 => omega
       case b5 => exact HSZ.out
       intro v8 w8 ho8 hg8 _
       have HB8 := Lib.hid (HBZ.out.grown hg8 HSZ.out (fun k hk => row_own HO7.out hk))
       have HO8 := Lib.hid (show PrRow w8 base v8 (l ++ [(kk, rec)]) by unfold PrRow; rw [List.length_append, prsF_append]; exact ho8)
       clear ho8 hg8
       go_wp2_with fail
       go_ret2
       exact ⟨_, by rw [H.out]; rfl, by rw [H.out]; exact HO8.out, HB8.out⟩
   · subst ho1
     obtain ⟨iv, hiv, hiv1, hiv2⟩ := kval_ivl (desc_kval hd (by decide))
     have HIV := Lib.hid hiv
     have HNK := Lib.hid (show newK z 1 l rec = (nextE iv (behindE iv l) rec).1 by unfold newK; rw [if_pos rfl, hiv]; rfl)
     have HFW := Lib.hid (behind_few iv l (by omega) HKL.out)
     have HBE := Lib.hid (behind_any (z := z) w3.drew w.heap.size a cap l 1 fmt len blk iv ((HS.out.below HB3.out.1).below (below_drewN (Below.refl _ _) 1)) HB3.out.1.size hiv hiv1 hiv2 hl HKL.out)
     have ld3 : (loadDs ⟨w.heap.size, 0, none⟩).run Tryz.prog w3.drew = .ok (.agg (dsv z 1 fmt len blk)) w3.drew := loadDs_at (w := w3.drew) HB3.out.2.1 rfl
     have c33d : w3.drew.cell? ⟨w.heap.size + 1, 3, none⟩ = some (.string ⟨rec.toArray⟩) := c33
     clear hiv
     generalize behindE iv l = x at HNK HFW HBE
     go_upto_region 5 with fail
     go_cut [8] (fun k wx => k = .string ⟨(newK z 1 l rec).toArray⟩ ∧ Below w3.heap.size w3 wx)
     case first =>
       go_region_held3 (fun w' => (loadDs ⟨w.heap.size, 0, none⟩).run Tryz.prog w' = .ok (.agg (dsv z 1 fmt len blk)) w' ∧ w'.cell? ⟨w.heap.size + 1, 3, none⟩ = some (.string ⟨rec.toArray⟩)) (first | (with_reducible exact ⟨ld5, c35⟩) | (with_reducible exact ⟨ld4, c34⟩) | exact ⟨ld3, c33d⟩ | fail)
         ((first
           | (go_at_call 123
              (with_reducible refine HBE.out.mono ?_)
              rintro e w4 ⟨⟨cs, rfl, hen⟩, hb4⟩
              have HEN := Lib.hid hen
              have HB4 := Lib.hid (show Below w3.heap.size w3 w4 from below_drew1.trans hb4)
              have HD4 := Lib.hid (heap_below HB4.out (lt_of_block HB3.out.2.1) HB3.out.2.1)
              have HC4 := Lib.hid (heap_below HB4.out (lt_of_block HB3.out.2.2) HB3.out.2.2)
              have ld4 := loadDs_at HD4.out rfl
              have c34 := cell_at (i := 3) (v := .string ⟨rec.toArray⟩) HC4.out rfl
              have HNX := Lib.hid (next_any (z := z) w4 w4.heap.size x cs 1 fmt len blk iv rec HEN.out (Nat.le_refl _) HIV.out hiv1 hiv2 HFW.out.page HFW.out.on HFW.out.each hr HFW.out.used)
              clear hen hb4)
           | (go_at_call 43
              (refine HNX.out.mono ?_)
              rintro e w5 ⟨⟨cs5, rfl, hen5⟩, hb5⟩
              have HB5 := Lib.hid (HB4.out.trans (hb5.mono HB4.out.size))
              have HD5 := Lib.hid (heap_below HB5.out (lt_of_block HB3.out.2.1) HB3.out.2.1)
              have HC5 := Lib.hid (heap_below HB5.out (lt_of_block HB3.out.2.2) HB3.out.2.2)
              have ld5 := loadDs_at HD5.out rfl
              have c35 := cell_at (i := 3) (v := .string ⟨rec.toArray⟩) HC5.out rfl
              clear hen5 hb5)
           | fail))
       all_goals
         go_wp2_with fail
         go_meet
         exact ⟨by rw [HNK.out]; rfl, HB5.out⟩
     case rest =>
       obtain ⟨rfl, hbx⟩ := hcut
       have hHDx := heap_below hbx (lt_of_block HB3.out.2.1) HB3.out.2.1
       have hHCx := heap_below hbx (lt_of_block HB3.out.2.2) HB3.out.2.2
       have HB3x := Lib.hid (And.intro (HB3.out.1.trans (hbx.mono HB3.out.1.size)) (And.intro hHDx hHCx))
       have HCO3x := Lib.hid (HCO3.out.below hbx HCO3.out.pos)
       clear c13 c33 c33d ld3 HBE HFW HNK hHDx hHCx hbx HB3 HCO3
       obtain ⟨kk, hkk⟩ : ∃ kk, kk = newK z 1 l rec := ⟨_, rfl⟩
       rw [← hkk]
       have HNK := Lib.hid hkk.symm
       clear hkk
       have c33 := cell_at (i := 3) (v := .string ⟨rec.toArray⟩) HB3x.out.2.2 rfl
       have HKK := Lib.hid (show kk.length = 8 by rw [← HNK.out]; exact HNL.out)
       have hz6 := heap_alloc_new wc (.cells #[.string ⟨#[]⟩, .string ⟨#[]⟩] 46)
       have st6 := storePr_at (x := (kk, rec)) hz6 rfl
       have HP6 := Lib.hid (setRow_heap _ _ _ #[.string ⟨kk.toArray⟩, .string ⟨rec.toArray⟩] _ _ hz6)
       have HB6 := Lib.hid (below_setRow (box_below wc #[.string ⟨#[]⟩, .string ⟨#[]⟩] 46) (Nat.le_refl _) #[.string ⟨kk.toArray⟩, .string ⟨rec.toArray⟩])
       generalize (wc.alloc (.cells #[.string ⟨#[]⟩, .string ⟨#[]⟩] 46)).setRow wc.heap.size #[.string ⟨kk.toArray⟩, .string ⟨rec.toArray⟩] = w6 at st6 HP6 HB6
       have HBA := Lib.hid (HB3x.out.1.trans (HB6.out.mono HB3x.out.1.size))
       have ld6 := loadDs_at (heap_below HB6.out (lt_of_block HB3x.out.2.1) HB3x.out.2.1) rfl
       have lp6 := loadPr_at HP6.out rfl
       have HAL := Lib.hid (allowed49_any (z := z) 1 fmt len blk (kk, rec) w6 hd (HCO3x.out.below HB6.out HCO3x.out.pos) (show kk.length ≤ 1000000 by have := HKK.out; omega) (show rec.length ≤ 1000000 by omega))
       clear hz6
       cases hal : alP z 1 fmt len (kk, rec) with
       | false =>
         rw [hal] at HAL
         have H := Lib.hid (show appL z 1 fmt len l rec = (2, []) by rw [HPU2.out, HNK.out, hal]; rfl)
         clear hal
         go_wp2_with fail
         refine HAL.out.mono ?_
         rintro e w7 ⟨rfl, hb7⟩
         have HB7 := Lib.hid (HBA.out.trans (hb7.mono HBA.out.size))
         clear st6 ld6 lp6 hb7
         go_wp2_with fail
         go_ret2
         exact ⟨_, by rw [H.out]; rfl, by rw [H.out]; exact own_nil _ _ _ _, HB7.out.mono hb⟩
       | true =>
         rw [hal] at HAL
         have H := Lib.hid (show appL z 1 fmt len l rec = (0, l ++ [(kk, rec)]) by rw [HPU2.out, HNK.out, hal]; rfl)
         clear hal
         go_wp2_with fail
         refine HAL.out.mono ?_
         rintro e w7 ⟨rfl, hb7⟩
         have HB7 := Lib.hid (HBA.out.trans (hb7.mono HBA.out.size))
         have lp7 := loadPr_at (heap_below hb7 (lt_of_block HP6.out) HP6.out) rfl
         have HO7 := Lib.hid (own_below HO.out (HB7.out.trans ((box_below w7 #[.string ⟨kk.toArray⟩, .string ⟨rec.toArray⟩] 46).mono HB7.out.size)))
         have HBZ := Lib.hid ((HB7.out.trans ((box_below w7 #[.string ⟨kk.toArray⟩, .string ⟨rec.toArray⟩] 46).mono HB7.out.size)).mono hb)
         have HNW := Lib.hid (show ∀ (j : Nat) (u : Value), (encP (kk, rec))[j]? = some u → (w7.alloc (.cells #[.string ⟨kk.toArray⟩, .string ⟨rec.toArray⟩] 46)).cell? ((⟨w7.heap.size, 0, none⟩ : Addr).add j) = some u from news_at (heap_alloc_new w7 _))
         have HSZ := Lib.hid (show base ≤ (w7.alloc (.cells #[.string ⟨kk.toArray⟩, .string ⟨rec.toArray⟩] 46)).heap.size by have := HB7.out.size; simp; omega)
         clear st6 ld6 lp6 hb7
         go_wp2_with (at_builtin; refine wpList_append_own _ rfl _ _ 24 rfl base 46 i0 (.agg #[.string ⟨#[]⟩, .string ⟨#[]⟩]) 2 32 Tryz.underlying24 hi0 hz0 hz1 hz2 rfl (by decide) _ _ _ rfl HO7.out _ 1 _ (encP (kk, rec)) rfl rfl HNW.out (one_prs [(kk, rec)]) ?b3 ?b4 ?b5 ?_)
         case b3 => unfold maxLen; omega
         case b4 => omega
         case b5 => exact HSZ.out
         intro v8 w8 ho8 hg8 _
         have HB8 := Lib.hid (HBZ.out.grown hg8 HSZ.out (fun k hk => row_own HO7.out hk))
         have HO8 := Lib.hid (show PrRow w8 base v8 (l ++ [(kk, rec)]) by unfold PrRow; rw [List.length_append, prsF_append]; exact ho8)
         clear ho8 hg8
         go_wp2_with fail
         go_ret2
         exact ⟨_, by rw [H.out]; rfl, by rw [H.out]; exact HO8.out, HB8.out⟩
end

end Go.Proofs.YtckpepfkfjdnhaaGreatDoor

/-
  Walk: a content after a change, by the reference: a change that appends. Conditions: a valid content and change; pairs in memory, not too many.
-/
import Derived.Test.YtckpepfkfjdnhaaGreatDoorNJ41
import Derived.Lib.Walk
import Derived.Deep.RegionHeld3
namespace Go.Proofs.YtckpepfkfjdnhaaGreatDoor
open Go.RowKit Go.Sort
variable {z : Rest}

section
attribute [local go_sem ↓] loadDs_down loadCo_down storeCo_down loadCh_down storeCh_down
set_option maxRecDepth 100000 in
set_option maxHeartbeats 8000000 in
theorem rdo_app (w : World) (B : Nat) (a : Option Addr) (cap : Nat) (l : List Pr) (org fmt len blk ap n kind id : Int) (key rec vol : By) (hP : Prs w B a l) (hB : B ≤ w.heap.size) (hlc : l.length ≤ cap) (hl : l.length ≤ 800) (hvo : z.vol.length ≤ 9223372036854775807) (how : z.own.length ≤ 9223372036854775807)
   (hk : key.length ≤ 100000) (hr : rec.length ≤ 100000) (hv : vol.length ≤ 1000000) (hkl : ∀ p ∈ l, p.1.length ≤ 100000 ∧ p.2.length ≤ 100000)
   (hva : valP z org fmt len blk ap l = true) (hch : chgP kind id key rec vol = true) (h1 : ¬ n < 1) (h2 : ¬ 1099511627776 < n) (hid : id = z.id) (hap : ¬ n ≤ ap) (hkind : kind = 2) :
   Calls Tryz.prog 14 #[.agg (conC z org fmt len blk ap a l.length cap), .agg (numC n kind id key rec vol)] w (DoRet z org fmt len blk none w (rdoV z org fmt len blk ap l n kind id key rec vol)) := by
 have HKD := Lib.hid hkind
 clear hkind
 obtain ⟨W, hst, hE⟩ := rd_start (z := z) w org fmt len blk ap a l.length cap n kind id key rec vol
 have hD := do_start (z := z) w org fmt len blk ap a l.length cap n kind id key rec vol
 have ldn := loadCh_num hD.num
 have HE := Lib.hid hE
 have HS := Lib.hid hP
 have HKL := Lib.hid hkl
 have HR := Lib.hid (show rdoV z org fmt len blk ap l n kind id key rec vol = if (rdoR z org l kind key rec).1 ≠ 0 then ((rdoR z org l kind key rec).1, 0, []) else if valP z org fmt len blk n (rdoR z org l kind key rec).2 = false then (2, 0, []) else (0, n, (rdoR z org l kind key rec).2) by
   unfold rdoV
   rw [if_neg (by rw [hva, hch]; rintro (h | h | h | h); cases h; cases h; exact h1 h; exact h2 h), if_neg (by rintro (h | h); exact h hid; exact hap h)])
 have HKIND := Lib.hid (show 0 ≤ kind ∧ kind ≤ 7 by
   unfold chgP at hch; simp only [Bool.and_eq_true, decide_eq_true_eq] at hch; exact hch.1.1.1.1)
 have ldc := loadCo_at hE.con rfl
 have HVA := Lib.hid (r49valid_any (z := z) W B a cap l org fmt len blk ap (HS.out.below (HE.out.bel.mono hB)) (Nat.le_trans hB HE.out.bel.size) (by omega) hlc hvo how HKL.out)
 have HCH := Lib.hid (fun W' => rcvalid_any kind id key rec vol W' (by omega) (by omega) hv)
 have HVL := Lib.hid hva
 rw [hva] at HVA
 rw [hch] at HCH
 have d1 : decide (n < 1) = false := by simpa using h1
 have d2 : decide (1099511627776 < n) = false := by simpa using h2
 have e1 : (id != z.id) = false := by simp [hid]
 have e2 : decide (n ≤ ap) = false := by simpa using hap
 clear hP hkl hE hD hva hch h1 h2 hid hap
 go_enter Tryz.func14, Tryz.ntmps14
 go_wp2_with fail
 refine HVA.out.mono ?_
 rintro e w3 ⟨rfl, hb3⟩
 have HD3 := Lib.hid (HE.out.below hb3 HE.out.size)
 have lch := loadCh_at HD3.out.ch rfl
 clear ldc hb3 hst ldn
 go_wp2_with fail
 refine (HCH.out w3).mono ?_
 rintro e w4 ⟨rfl, hb4⟩
 have HD4 := Lib.hid (HD3.out.below hb4 HD3.out.size)
 have n0 := cell_at (i := 0) (v := .int .i64 n) HD4.out.num rfl
 have k0 := cell_at (i := 0) (v := .int .i64 z.id) HD4.out.con rfl
 have k1 := cell_at (i := 1) (v := .int .i64 org) HD4.out.con rfl
 have k21 := cell_at (i := 21) (v := .int .i64 ap) HD4.out.con rfl
 have k22 := cell_at (i := 22) (v := .slice a l.length cap) HD4.out.con rfl
 have k221 : (w4.alloc (.cells #[] 46)).cell? ⟨w.heap.size, 22, none⟩ = some (.slice a l.length cap) := cell_at (i := 22) ((halloc w4 _ (lt_of_block HD4.out.con)).trans HD4.out.con) rfl
 have q1 := cell_at (i := 1) (v := .int .i64 id) HD4.out.ch rfl
 have hown : PrRow (w4.alloc (.cells #[] 46)) w4.heap.size (.slice (some ⟨w4.heap.size, 0, none⟩) 0 0) [] := World.ownsRow_lit w4 #[] 0 (Nat.le_refl _) (by simp [maxLen]) rfl
 have HB4 := Lib.hid (box_below w4 #[] 46)
 have HS4 := Lib.hid ((HS.out.below (HD4.out.bel.mono hB)).below (HB4.out.mono (Nat.le_trans hB HD4.out.bel.size)))
 clear hb4 lch
 go_upto_region 6 with fail
 go_cut [7] (fun d wx => d = .bool (dirP org) ∧ wx = w4)
 case first =>
   by_cases h3 : org = 3
   · have HDI := Lib.hid (show dirP org = true by rw [h3]; rfl)
     have e3 : (org == 3) = true := by simp [h3]
     clear h3
     go_wp2_with fail
     go_meet
     exact ⟨by rw [HDI.out], rfl⟩
   · have e3 : (org == 3) = false := by simp [h3]
     by_cases h2 : org = 2
     · have HDI := Lib.hid (show dirP org = true by rw [h2]; rfl)
       have e2' : (org == 2) = true := by simp [h2]
       clear h3 h2
       go_wp2_with fail
       go_meet
       exact ⟨by rw [HDI.out], rfl⟩
     · have HDI := Lib.hid (show dirP org = false by unfold dirP; simp [h3, h2])
       have e2' : (org == 2) = false := by simp [h2]
       clear h3 h2
       go_wp2_with fail
       go_meet
       exact ⟨by rw [HDI.out], rfl⟩
 case rest =>
   obtain ⟨rfl, hwc⟩ := hcut
   have hwc2 := hwc.symm
   clear hwc
   subst hwc2
   go_wp2_with (at_builtin; refine wpList_append_prs rfl _ _ rfl w4.heap.size _ [] l rfl hown a l.length B cap rfl rfl HS4.out (by simp; omega) (by simp) ?_)
   intro v5 w5 ho5 hg5 hn5
   have hb5 := HB4.out.grown hg5 (by simp) (fun k hk => row_own hown hk)
   have HD5 := Lib.hid (HD4.out.below hb5 HD4.out.size)
   have HO5 := Lib.hid ho5
   have HN5 := Lib.hid (show v5 ≠ .slice none 0 0 by first | exact hn5 | exact hn5 (by simp))
   have HZ4 := Lib.hid HD4.out.size
   have HZ5 := Lib.hid hb5.size
   have q0 := cell_at (i := 0) (v := .int .i64 kind) HD5.out.ch rfl
   clear d1 d2 e1 e2 n0 k0 k1 k21 k22 k221 q1 hg5 hn5 ho5 hb5 hown HVA HCH
   have hkind := HKD.out
   subst hkind
   cases hdi : dirP org with
   | true =>
     have H := Lib.hid (show rdoV z org fmt len blk ap l n 2 id key rec vol = (7, 0, []) by
       have e : rdoR z org l 2 key rec = (7, []) := by unfold rdoR; rw [if_neg (by decide), if_pos rfl, if_pos hdi]
       rw [HR.out, e]; rfl)
     obtain ⟨w9, stz, hx, hf⟩ := rd_no HD5.out none 7 (by decide)
     have HF := Lib.hid hf
     have lr := loadCo_at hx rfl
     clear hx hf hdi
     go_wp2_with fail
     refine ret_cell_tmp rfl rfl rfl rfl lr ?_
     rw [H.out]; exact HF.out
   | false =>
     have HRR := Lib.hid (show rdoR z org l 2 key rec = (0, l ++ [(newK z org l rec, rec)]) by unfold rdoR; rw [if_neg (by decide), if_pos rfl, if_neg (by rw [hdi]; decide)])
     have HOR := Lib.hid (show org = 0 ∨ org = 1 by
       have h0 := desc_org (val_desc HVL.out)
       unfold dirP at hdi
       simp only [Bool.or_eq_false_iff, decide_eq_false_iff_not] at hdi
       omega)
     have HKK := Lib.hid (newK_len (z := z) org l rec)
     have HB5 := Lib.hid (show Below w.heap.size w w5.drew from below_drewN HD5.out.bel 1)
     have HPL := Lib.hid (place_any (z := z) w5.drew B a cap l org fmt len blk ap rec (HS.out.below (HB5.out.mono hB)) (Nat.le_trans hB HB5.out.size) (by omega) HVL.out HOR.out hr HKL.out)
     have ld5 : (loadCo ⟨w.heap.size, 0, none⟩).run Tryz.prog w5.drew = .ok (.agg (conC z org fmt len blk ap a l.length cap)) w5.drew := loadCo_at (w := w5.drew) HD5.out.con rfl
     have c5 : w5.drew.cell? ⟨w.heap.size + 3, 3, none⟩ = some (.string ⟨rec.toArray⟩) := cell_at (w := w5.drew) (i := 3) HD5.out.ch rfl
     clear hdi
     generalize hkk : newK z org l rec = kk at HRR HKK HPL
     clear hkk
     go_upto_region 27 with fail
     go_region_held3 (fun w' => (loadCo ⟨w.heap.size, 0, none⟩).run Tryz.prog w' = .ok (.agg (conC z org fmt len blk ap a l.length cap)) w' ∧ w'.cell? ⟨w.heap.size + 3, 3, none⟩ = some (.string ⟨rec.toArray⟩)) (first | (with_reducible exact ⟨ld8, c8⟩) | (with_reducible exact ⟨ld6a, c6a⟩) | (with_reducible exact ⟨ld6, c6⟩) | exact ⟨ld5, c5⟩ | fail)
       ((first
         | (go_at_call 37
            (refine HPL.out.mono ?_)
            rintro e w6 ⟨rfl, hb6⟩
            have HB6 := Lib.hid (show Below w5.heap.size w5 w6 from below_drew1.trans hb6)
            have HD6 := Lib.hid (HD5.out.below HB6.out HD5.out.size)
            have HD6a := Lib.hid (HD6.out.below (box_below w6 #[.string ⟨kk.toArray⟩, .string ⟨rec.toArray⟩] 46) HD6.out.size)
            have ld6 := loadCo_at HD6.out.con rfl
            have c6 := cell_at (i := 3) (v := .string ⟨rec.toArray⟩) HD6.out.ch rfl
            have ld6a := loadCo_at HD6a.out.con rfl
            have c6a := cell_at (i := 3) (v := .string ⟨rec.toArray⟩) HD6a.out.ch rfl
            have HB6a := Lib.hid (HB6.out.trans ((box_below w6 #[.string ⟨kk.toArray⟩, .string ⟨rec.toArray⟩] 46).mono HB6.out.size))
            have HO6 := Lib.hid (show PrRow (w6.alloc (.cells #[.string ⟨kk.toArray⟩, .string ⟨rec.toArray⟩] 46)) w4.heap.size v5 l from own_below HO5.out HB6a.out)
            have HP6 := Lib.hid (prs_one (x := (kk, rec)) (heap_alloc_new w6 (.cells #[.string ⟨kk.toArray⟩, .string ⟨rec.toArray⟩] 46)))
            have HZ6 := Lib.hid (Nat.le_trans HZ5.out HB6a.out.size)
            clear hb6)
         | (refine step_append_prs rfl (.tmp 149) (.tmp 157) rfl w4.heap.size v5 l [(kk, rec)] rfl HO6.out (some ⟨w6.heap.size, 0, none⟩) 1 _ 1 rfl rfl HP6.out (by simp; omega) HZ6.out ?_
            intro v8 w8 ho8 hg8 _
            have HO8 := Lib.hid ho8
            have HB8 := Lib.hid (((HB6a.out.mono HZ5.out)).grown hg8 HZ6.out (fun k hk => row_own HO6.out hk))
            have HD8 := Lib.hid (HD5.out.below HB8.out HZ4.out)
            have ld8 := loadCo_at HD8.out.con rfl
            have c8 := cell_at (i := 3) (v := .string ⟨rec.toArray⟩) HD8.out.ch rfl
            clear ho8 hg8)
         | fail))
     all_goals
       have HLx := Lib.hid (show (l ++ [(kk, rec)]).length ≤ 900 ∧ ∀ p ∈ l ++ [(kk, rec)], p.1.length ≤ 100000 ∧ p.2.length ≤ 100000 by
         refine ⟨by simp; omega, fun p hp => ?_⟩
         rcases List.mem_append.1 hp with h | h
         · exact HKL.out p h
         · obtain rfl := List.mem_singleton.1 h
           exact ⟨by rw [HKK.out]; omega, hr⟩)
       clear ld5 c5 q0 HPL ld6 c6 ld6a c6a ld8 c8
       generalize hLL : l ++ [(kk, rec)] = LL at HO8 HLx HRR
       clear hLL
       obtain ⟨a8, c8, rfl, hc8, hm8, hp8⟩ := prs_of_row HO8.out
       have lds := loadDs_con HD8.out.con
       have n0f := cell_at (i := 0) (v := .int .i64 n) HD8.out.num rfl
       have st14 := storeCo_at (cs := conC z org fmt len blk n a8 LL.length c8) (heap_alloc_new w8 (.cells conZ 26)) rfl rfl one_con
       have HX14 := Lib.hid (setRow_heap _ _ _ (conC z org fmt len blk n a8 LL.length c8) _ _ (heap_alloc_new w8 (.cells conZ 26)))
       have HB14 := Lib.hid (below_setRow (box_below w8 conZ 26) (Nat.le_refl _) (conC z org fmt len blk n a8 LL.length c8))
       have HS14 := Lib.hid (show ((w8.alloc (.cells conZ 26)).setRow w8.heap.size (conC z org fmt len blk n a8 LL.length c8)).heap.size = w8.heap.size + 1 by simp)
       generalize (w8.alloc (.cells conZ 26)).setRow w8.heap.size (conC z org fmt len blk n a8 LL.length c8) = w14 at st14 HX14 HB14 HS14
       have ld14 := loadCo_at HX14.out rfl
       have st15 := storeCo_at (cs := conC z org fmt len blk n a8 LL.length c8) (heap_alloc_new w14 (.cells conZ 26)) rfl rfl one_con
       have HX15 := Lib.hid (setRow_heap _ _ _ (conC z org fmt len blk n a8 LL.length c8) _ _ (heap_alloc_new w14 (.cells conZ 26)))
       have HB15 := Lib.hid (below_setRow (box_below w14 conZ 26) (Nat.le_refl _) (conC z org fmt len blk n a8 LL.length c8))
       have HS15 := Lib.hid (show ((w14.alloc (.cells conZ 26)).setRow w14.heap.size (conC z org fmt len blk n a8 LL.length c8)).heap.size = w14.heap.size + 1 by simp)
       generalize (w14.alloc (.cells conZ 26)).setRow w14.heap.size (conC z org fmt len blk n a8 LL.length c8) = w15 at st15 HX15 HB15 HS15
       have ld15 := loadCo_at HX15.out rfl
       have HBF := Lib.hid (HB14.out.trans (HB15.out.mono HB14.out.size))
       have HOZ := Lib.hid (own_below HO8.out HBF.out)
       have HDZ := Lib.hid (HD8.out.below HBF.out HD8.out.size)
       have HX14b := Lib.hid (heap_below HB15.out (lt_of_block HX14.out) HX14.out)
       have HVF := Lib.hid (r49valid_any (z := z) w15 w8.heap.size a8 c8 LL org fmt len blk n (hp8.below HBF.out) HBF.out.size HLx.out.1 hc8 hvo how HLx.out.2)
       have gl : decide ((1024 : Int) < (LL.length : Int)) = false := by have := HLx.out.1; simp; omega
       clear hp8
       cases hvf : valP z org fmt len blk n LL with
       | false =>
         rw [hvf] at HVF
         have H := Lib.hid (show rdoV z org fmt len blk ap l n 2 id key rec vol = (2, 0, []) by rw [HR.out, HRR.out]; show (if (0 : Int) ≠ 0 then _ else _) = _; rw [if_neg (by decide), if_pos hvf])
         clear hvf
         go_wp2_with fail
         refine HVF.out.mono ?_
         rintro e w16 ⟨rfl, hb16⟩
         obtain ⟨w9, stz, hx, hf⟩ := rd_no (HDZ.out.below hb16 HDZ.out.size) none 2 (by decide)
         have HF := Lib.hid hf
         have lr := loadCo_at hx rfl
         clear hb16 hx hf st14 st15 ld14 ld15 lds n0f
         go_wp2_with fail
         refine ret_cell_tmp rfl rfl rfl rfl lr ?_
         rw [H.out]; exact HF.out
       | true =>
         rw [hvf] at HVF
         have H := Lib.hid (show rdoV z org fmt len blk ap l n 2 id key rec vol = (0, n, LL) by rw [HR.out, HRR.out]; show (if (0 : Int) ≠ 0 then _ else _) = _; rw [if_neg (by decide), if_neg (by rw [hvf]; decide)])
         clear hvf
         go_wp2_with fail
         refine HVF.out.mono ?_
         rintro e w16 ⟨rfl, hb16⟩
         have HDQ := Lib.hid (HDZ.out.below hb16 HDZ.out.size)
         have HOQ := Lib.hid (own_setRow (own_below HOZ.out hb16) (show w.heap.size + 2 < w4.heap.size by have := HZ4.out; omega) (conC z org fmt len blk n a8 LL.length c8))
         have ld16 := loadCo_at (heap_below hb16 (lt_of_block HX14b.out) HX14b.out) rfl
         have st17 := storeCo_at (cs := conC z org fmt len blk n a8 LL.length c8) HDQ.out.res rfl rfl one_con
         have HX17 := Lib.hid (setRow_heap w16 _ _ (conC z org fmt len blk n a8 LL.length c8) _ _ HDQ.out.res)
         have HB17 := Lib.hid (below_setRow HDQ.out.bel (show w.heap.size ≤ w.heap.size + 2 by omega) (conC z org fmt len blk n a8 LL.length c8))
         clear hb16 st14 st15 ld14 ld15 lds n0f
         generalize w16.setRow (w.heap.size + 2) (conC z org fmt len blk n a8 LL.length c8) = w17 at st17 HX17 HB17 HOQ
         have lr := loadCo_at HX17.out rfl
         go_wp2_with fail
         refine ret_cell_tmp rfl rfl rfl rfl lr ?_
         rw [H.out]
         refine ⟨⟨_, rfl, fun _ => ⟨a8, c8, rfl, hc8, hm8, ?_, fun p hp => Or.inr (by have := row_own HOQ.out (k := p.block) (by rw [hp]; rfl); have := HZ4.out; omega)⟩, fun h => absurd rfl h⟩, HB17.out⟩
         obtain ⟨a6, c6, he6, _, _, hp6⟩ := prs_of_row HOQ.out
         have : a8 = a6 := by injection he6
         rw [this]; exact hp6

end

end Go.Proofs.YtckpepfkfjdnhaaGreatDoor

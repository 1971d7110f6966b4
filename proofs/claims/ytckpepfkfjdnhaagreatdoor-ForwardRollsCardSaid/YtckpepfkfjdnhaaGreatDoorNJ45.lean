/-
  Walk: a content after a change, by the reference: a change of a record by its key. Conditions: a valid content and change; pairs in memory, not too many.
-/
import Derived.Test.YtckpepfkfjdnhaaGreatDoorNJ44
import Derived.Test.YtckpepfkfjdnhaaGreatDoorNJ2
import Derived.Lib.Walk
namespace Go.Proofs.YtckpepfkfjdnhaaGreatDoor
open Go.RowKit Go.Sort
variable {z : Rest}

section
attribute [local go_sem ↓] loadDs_down loadCo_down storeCo_down loadCh_down storeCh_down
set_option maxRecDepth 100000 in
set_option maxHeartbeats 8000000 in
theorem rdo_era (w : World) (B : Nat) (a : Option Addr) (cap : Nat) (l : List Pr) (org fmt len blk ap n kind id : Int) (key rec vol : By) (hP : Prs w B a l) (hB : B ≤ w.heap.size) (hlc : l.length ≤ cap) (hl : l.length ≤ 800) (hvo : z.vol.length ≤ 9223372036854775807) (how : z.own.length ≤ 9223372036854775807)
   (hk : key.length ≤ 100000) (hr : rec.length ≤ 100000) (hv : vol.length ≤ 1000000) (hkl : ∀ p ∈ l, p.1.length ≤ 100000 ∧ p.2.length ≤ 100000)
   (hva : valP z org fmt len blk ap l = true) (hch : chgP kind id key rec vol = true) (h1 : ¬ n < 1) (h2 : ¬ 1099511627776 < n) (hid : id = z.id) (hap : ¬ n ≤ ap) (hkind : kind = 1) :
   Calls Tryz.prog 14 #[.agg (conC z org fmt len blk ap a l.length cap), .agg (numC n kind id key rec vol)] w (DoRet z org fmt len blk none w (rdoV z org fmt len blk ap l n kind id key rec vol)) := by
 have HKD := Lib.hid hkind
 clear hkind
 obtain ⟨W, hst, hE⟩ := rd_start (z := z) w org fmt len blk ap a l.length cap n kind id key rec vol
 have hD := do_start (z := z) w org fmt len blk ap a l.length cap n kind id key rec vol
 have ldn := loadCh_num hD.num
 have HE := Lib.hid hE
 have HS := Lib.hid hP
 have HKL := Lib.hid hkl
 have HR := Lib.hid (show rdoV z org fmt len blk ap l n kind id key rec vol = if (rdoR z org l kind key rec).1 ≠ 0 then ((rdoR z org l kind key rec).1, 0, []) else if valP z org fmt len blk n (rdoR z org l kind key rec).2 = false then (2, 0, []) else (0, n, (rdoR z org l kind key rec).2) by
   unfold rdoV
   rw [if_neg (by rw [hva, hch]; rintro (h | h | h | h); cases h; cases h; exact h1 h; exact h2 h), if_neg (by rintro (h | h); exact h hid; exact hap h)])
 have HKIND := Lib.hid (show 0 ≤ kind ∧ kind ≤ 7 by
   unfold chgP at hch; simp only [Bool.and_eq_true, decide_eq_true_eq] at hch; exact hch.1.1.1.1)
 have ldc := loadCo_at hE.con rfl
 have HVA := Lib.hid (r49valid_any (z := z) W B a cap l org fmt len blk ap (HS.out.below (HE.out.bel.mono hB)) (Nat.le_trans hB HE.out.bel.size) (by omega) hlc hvo how HKL.out)
 have HCH := Lib.hid (fun W' => rcvalid_any kind id key rec vol W' (by omega) (by omega) hv)
 have HVL := Lib.hid hva
 rw [hva] at HVA
 rw [hch] at HCH
 have d1 : decide (n < 1) = false := by simpa using h1
 have d2 : decide (1099511627776 < n) = false := by simpa using h2
 have e1 : (id != z.id) = false := by simp [hid]
 have e2 : decide (n ≤ ap) = false := by simpa using hap
 clear hP hkl hE hD hva hch h1 h2 hid hap
 go_enter Tryz.func14, Tryz.ntmps14
 go_wp2_with fail
 refine HVA.out.mono ?_
 rintro e w3 ⟨rfl, hb3⟩
 have HD3 := Lib.hid (HE.out.below hb3 HE.out.size)
 have lch := loadCh_at HD3.out.ch rfl
 clear ldc hb3 hst ldn
 go_wp2_with fail
 refine (HCH.out w3).mono ?_
 rintro e w4 ⟨rfl, hb4⟩
 have HD4 := Lib.hid (HD3.out.below hb4 HD3.out.size)
 have n0 := cell_at (i := 0) (v := .int .i64 n) HD4.out.num rfl
 have k0 := cell_at (i := 0) (v := .int .i64 z.id) HD4.out.con rfl
 have k1 := cell_at (i := 1) (v := .int .i64 org) HD4.out.con rfl
 have k21 := cell_at (i := 21) (v := .int .i64 ap) HD4.out.con rfl
 have k22 := cell_at (i := 22) (v := .slice a l.length cap) HD4.out.con rfl
 have k221 : (w4.alloc (.cells #[] 46)).cell? ⟨w.heap.size, 22, none⟩ = some (.slice a l.length cap) := cell_at (i := 22) ((halloc w4 _ (lt_of_block HD4.out.con)).trans HD4.out.con) rfl
 have q1 := cell_at (i := 1) (v := .int .i64 id) HD4.out.ch rfl
 have hown : PrRow (w4.alloc (.cells #[] 46)) w4.heap.size (.slice (some ⟨w4.heap.size, 0, none⟩) 0 0) [] := World.ownsRow_lit w4 #[] 0 (Nat.le_refl _) (by simp [maxLen]) rfl
 have HB4 := Lib.hid (box_below w4 #[] 46)
 have HS4 := Lib.hid ((HS.out.below (HD4.out.bel.mono hB)).below (HB4.out.mono (Nat.le_trans hB HD4.out.bel.size)))
 clear hb4 lch
 go_upto_region 6 with fail
 go_cut [7] (fun d wx => d = .bool (dirP org) ∧ wx = w4)
 case first =>
   by_cases h3 : org = 3
   · have HDI := Lib.hid (show dirP org = true by rw [h3]; rfl)
     have e3 : (org == 3) = true := by simp [h3]
     clear h3
     go_wp2_with fail
     go_meet
     exact ⟨by rw [HDI.out], rfl⟩
   · have e3 : (org == 3) = false := by simp [h3]
     by_cases h2 : org = 2
     · have HDI := Lib.hid (show dirP org = true by rw [h2]; rfl)
       have e2' : (org == 2) = true := by simp [h2]
       clear h3 h2
       go_wp2_with fail
       go_meet
       exact ⟨by rw [HDI.out], rfl⟩
     · have HDI := Lib.hid (show dirP org = false by unfold dirP; simp [h3, h2])
       have e2' : (org == 2) = false := by simp [h2]
       clear h3 h2
       go_wp2_with fail
       go_meet
       exact ⟨by rw [HDI.out], rfl⟩
 case rest =>
   obtain ⟨rfl, hwc⟩ := hcut
   have hwc2 := hwc.symm
   clear hwc
   subst hwc2
   go_wp2_with (at_builtin; refine wpList_append_prs rfl _ _ rfl w4.heap.size _ [] l rfl hown a l.length B cap rfl rfl HS4.out (by simp; omega) (by simp) ?_)
   intro v5 w5 ho5 hg5 hn5
   have hb5 := HB4.out.grown hg5 (by simp) (fun k hk => row_own hown hk)
   have HD5 := Lib.hid (HD4.out.below hb5 HD4.out.size)
   have HO5 := Lib.hid ho5
   have HN5 := Lib.hid (show v5 ≠ .slice none 0 0 by first | exact hn5 | exact hn5 (by simp))
   have HZ4 := Lib.hid HD4.out.size
   have HZ5 := Lib.hid hb5.size
   have q0 := cell_at (i := 0) (v := .int .i64 kind) HD5.out.ch rfl
   clear d1 d2 e1 e2 n0 k0 k1 k21 k22 k221 q1 hg5 hn5 ho5 hb5 hown HVA HCH
   have hkind := HKD.out
   subst hkind
   cases hdi : dirP org with
   | false =>
     have H := Lib.hid (show rdoV z org fmt len blk ap l n 1 id key rec vol = (7, 0, []) by
       have e : rdoR z org l 1 key rec = (7, []) := by unfold rdoR; rw [if_pos (by decide), if_pos hdi]
       rw [HR.out, e]; rfl)
     obtain ⟨w9, stz, hx, hf⟩ := rd_no HD5.out none 7 (by decide)
     have HF := Lib.hid hf
     have lr := loadCo_at hx rfl
     clear hx hf hdi
     go_wp2_with fail
     refine ret_cell_tmp rfl rfl rfl rfl lr ?_
     rw [H.out]; exact HF.out
   | true =>
     have HRD := Lib.hid (show rdoR z org l 1 key rec = if possP z org key = false then (2, []) else (0, (l.take (posL key l) ++ []) ++ l.drop (if hasL key l = true then posL key l + 1 else posL key l)) by unfold rdoR; rw [if_pos (by decide), if_neg (by rw [hdi]; decide)]; rfl)
     have HOR := Lib.hid (show org = 3 ∨ org = 2 by
       unfold dirP at hdi
       simpa using hdi)
     have x1 := cell_at (i := 1) (v := .int .i64 org) HD5.out.con rfl
     have x6 := cell_at (i := 6) (v := .int .i64 z.klen) HD5.out.con rfl
     have y2 := cell_at (i := 2) (v := .string ⟨key.toArray⟩) HD5.out.ch rfl
     have y3 := cell_at (i := 3) (v := .string ⟨rec.toArray⟩) HD5.out.ch rfl
     have HNU := Lib.hid (rnum_any key w5 (by omega))
     have HPO := Lib.hid (show possP z org key = if org = 3 then decide ((key.length : Int) = z.klen) else relB key from rfl)
     clear hdi
     go_wp2_with fail
     refine HNU.out.mono ?_
     rintro e w6 ⟨he, rfl⟩
     obtain rfl : e = .returned (.tuple #[.int .i64 (numN key : Int), .bool (numB key).isSome]) := he
     go_upto_region 14 with fail
     go_cut [9, 10, 109] (fun _ _ c wx => c = .bool (!possP z org key) ∧ wx = w5)
     case first =>
       rcases HOR.out with h3 | h2
       · have e3 : (org == 3) = true := by simp [h3]
         have e2 : (org == 2) = false := by simp [h3]
         have HP3 := Lib.hid (show possP z org key = decide ((key.length : Int) = z.klen) by rw [HPO.out, if_pos h3])
         clear h3
         by_cases hl3 : (key.length : Int) = z.klen
         · have el : ((key.length : Int) != z.klen) = false := by simp [hl3]
           have HQ := Lib.hid (show (!possP z org key) = false by rw [HP3.out, decide_eq_true hl3]; rfl)
           clear hl3
           go_wp2_with fail
           go_meet
           exact ⟨by rw [HQ.out], rfl⟩
         · have el : ((key.length : Int) != z.klen) = true := by simp [hl3]
           have HQ := Lib.hid (show (!possP z org key) = true by rw [HP3.out, decide_eq_false hl3]; rfl)
           clear hl3
           go_wp2_with fail
           go_meet
           exact ⟨by rw [HQ.out], rfl⟩
       · have e3 : (org == 3) = false := by simp [h2]
         have e2 : (org == 2) = true := by simp [h2]
         have HP2 := Lib.hid (show possP z org key = relB key by rw [HPO.out, if_neg (by omega)])
         clear h2
         cases hnb : numB key with
         | none =>
           have HQ := Lib.hid (show (!possP z org key) = true by rw [HP2.out]; unfold relB numN; rw [hnb]; rfl)
           go_wp2_with fail
           go_meet
           exact ⟨by rw [HQ.out], rfl⟩
         | some nn =>
           have HNN := Lib.hid (show numN key = nn by unfold numN; rw [hnb]; rfl)
           have HP4 := Lib.hid (show possP z org key = (decide (1 ≤ nn) && decide (nn ≤ 65536)) by rw [HP2.out]; unfold relB; rw [HNN.out])
           rw [HNN.out]
           by_cases g1 : 1 ≤ nn
           · have d1 : decide ((nn : Int) < 1) = false := by simp; omega
             by_cases g2 : nn ≤ 65536
             · have d2 : decide ((65536 : Int) < (nn : Int)) = false := by simp; omega
               have HQ := Lib.hid (show (!possP z org key) = false by rw [HP4.out]; simp [g1, g2])
               clear g1 g2
               go_wp2_with fail
               go_meet
               exact ⟨by rw [HQ.out], rfl⟩
             · have d2 : decide ((65536 : Int) < (nn : Int)) = true := by simp; omega
               have HQ := Lib.hid (show (!possP z org key) = true by rw [HP4.out]; simp [g2])
               clear g1 g2
               go_wp2_with fail
               go_meet
               exact ⟨by rw [HQ.out], rfl⟩
           · have d1 : decide ((nn : Int) < 1) = true := by simp; omega
             have HQ := Lib.hid (show (!possP z org key) = true by rw [HP4.out]; simp [g1])
             clear g1
             go_wp2_with fail
             go_meet
             exact ⟨by rw [HQ.out], rfl⟩
     case rest =>
       obtain ⟨rfl, hwx⟩ := hcut
       have hwx2 := hwx.symm
       clear hwx
       subst hwx2
       cases hpo : possP z org key with
       | false =>
         have H := Lib.hid (show rdoV z org fmt len blk ap l n 1 id key rec vol = (2, 0, []) by
           rw [HR.out, HRD.out, if_pos hpo]; rfl)
         obtain ⟨w9, stz, hx, hf⟩ := rd_no HD5.out none 2 (by decide)
         have HF := Lib.hid hf
         have lr := loadCo_at hx rfl
         clear hx hf hpo x1 x6 y2 y3
         go_wp2_with fail
         refine ret_cell_tmp rfl rfl rfl rfl lr ?_
         rw [H.out]; exact HF.out
       | true =>
         have HRR := Lib.hid (show rdoR z org l 1 key rec = (0, (l.take (posL key l) ++ []) ++ l.drop (if hasL key l = true then posL key l + 1 else posL key l)) by rw [HRD.out, if_neg (by rw [hpo]; decide)])
         obtain ⟨g, c5, rfl, hgb, hgl, hc5, hm5, hp5⟩ := row_some HO5.out HN5.out
         have HP5 := Lib.hid hp5
         have HFI := Lib.hid (rfind_any key w5 w5.heap.size (some ⟨g, 0, none⟩) c5 l hp5 (by omega) hc5)
         have hle := posL_le key l
         have hlt : hasL key l = true → posL key l < l.length := hasL_lt
         clear hpo HRD x1 x6 hp5
         obtain ⟨i, hi⟩ : ∃ i, i = posL key l := ⟨_, rfl⟩
         rw [← hi] at HFI HRR hle hlt
         clear hi
         obtain ⟨th, hth⟩ : ∃ th, th = hasL key l := ⟨_, rfl⟩
         rw [← hth] at HFI HRR hlt
         clear hth
         go_wp2_with fail
         refine HFI.out.mono ?_
         rintro e w6 ⟨rfl, hb6⟩
         have HD6 := Lib.hid (HD5.out.below hb6 HD5.out.size)
         have HZ4 := Lib.hid (show w.heap.size + 4 ≤ w6.heap.size from HD6.out.size)
         have hp6 : Prs w6 w6.heap.size (some ⟨g, 0, none⟩) l := (HP5.out.below hb6).mono hb6.size
         obtain ⟨A1, hA1, hpA1⟩ := slice_drop hp6 hle hc5
         have hown : PrRow (w6.alloc (.cells #[] 46)) w6.heap.size (.slice (some ⟨w6.heap.size, 0, none⟩) 0 0) [] := World.ownsRow_lit w6 #[] 0 (Nat.le_refl _) (by simp [maxLen]) rfl
         have HB6 := Lib.hid (box_below w6 #[] 46)
         have HPT := Lib.hid ((hp6.take i).below HB6.out)
         have hic : i ≤ c5 := by omega
         have htk : (l.take i).length = i := by rw [List.length_take]; omega
         have HTK := Lib.hid htk
         have hcm2 : (c5 : Int) ≤ 9223372036854775807 := by unfold maxLen at hm5; omega
         have hw1 : IntKind.i64.wrap ((i : Int) + 1) = (i : Int) + 1 := by rw [IntKind.wrap_i64]; omega
         have hb1 : (0 : Int) ≤ (i : Int) + 1 := by omega
         have htn : ((i : Int) + 1).toNat = i + 1 := by omega
         clear htk hb6 y2 y3 q0
         cases th with
         | true =>
           have hlt2 := hlt rfl
           obtain ⟨A2, hA2, hpA2⟩ := slice_drop hp6 (show i + 1 ≤ l.length by omega) hc5
           have hil1 : i + 1 ≤ l.length := hlt2
           have HPA := Lib.hid hpA2
           have HRJ := Lib.hid (show rdoR z org l 1 key rec = (0, (l.take i ++ []) ++ l.drop (i + 1)) by rw [HRR.out]; rfl)
           clear hlt hpA1 hpA2 hp6 HRR
           go_wp2_with (at_builtin; refine wpList_append_prs rfl _ _ rfl w6.heap.size _ [] (l.take i) rfl hown (some ⟨g, 0, none⟩) i _ c5 rfl HTK.out.symm HPT.out (by rw [HTK.out]; simp; omega) (by simp) ?_)
           intro v7 w7 ho7 hg7 hn7
           have hb7 := HB6.out.grown hg7 (by simp) (fun k hk => row_own hown hk)
           have HO7 := Lib.hid (show PrRow w7 w6.heap.size v7 (l.take i) from ho7)
           have HN7 := Lib.hid (show v7 ≠ .slice none 0 0 by first | exact hn7 | exact hn7 (by simp))
           have HB7 := Lib.hid hb7
           have HD7 := Lib.hid (HD6.out.below hb7 HZ4.out)
           have r0 := cell_at (i := 0) (v := .int .i64 1) HD7.out.ch rfl
           have r2 := cell_at (i := 2) (v := .string ⟨key.toArray⟩) HD7.out.ch rfl
           have r3 := cell_at (i := 3) (v := .string ⟨rec.toArray⟩) HD7.out.ch rfl
           clear hg7 hn7 ho7 hb7 hown
           have HO7b := Lib.hid (show PrRow w7 w6.heap.size v7 (l.take i ++ []) by rw [List.append_nil]; exact HO7.out)
           go_wp2_with (at_builtin; refine wpList_append_prs rfl _ _ rfl w6.heap.size v7 (l.take i ++ []) (l.drop (i + 1)) rfl HO7b.out (some A2) (l.length - (i + 1)) _ (c5 - (i + 1)) rfl (by rw [List.length_drop]) (HPA.out.below HB7.out) (by simp; omega) HB7.out.size ?_)
           intro v9 w9 ho9 hg9 _
           have HO9 := Lib.hid (show PrRow w9 w6.heap.size v9 ((l.take i ++ []) ++ l.drop (i + 1)) by simpa using ho9)
           have HB9 := Lib.hid (HB7.out.grown hg9 HB7.out.size (fun k hk => row_own HO7b.out hk))
           have HD9 := Lib.hid (HD6.out.below HB9.out HZ4.out)
           have HL9 := Lib.hid (show ((l.take i ++ []) ++ l.drop (i + 1)).length ≤ 900 ∧ ∀ p ∈ (l.take i ++ []) ++ l.drop (i + 1), p.1.length ≤ 100000 ∧ p.2.length ≤ 100000 by
             refine ⟨by simp; omega, fun p hp => ?_⟩
             rcases List.mem_append.1 hp with h | h
             · rcases List.mem_append.1 h with h | h
               · exact HKL.out p (List.mem_of_mem_take h)
               · first | (obtain rfl := List.mem_singleton.1 h; exact ⟨hk, hr⟩) | cases h
             · exact HKL.out p (List.mem_of_mem_drop h))
           clear hg9 ho9 r0 r2 r3
           generalize hLL : (l.take i ++ []) ++ l.drop (i + 1) = LL at HO9 HL9 HRJ
           clear hLL
           obtain ⟨a8, c8, rfl, hc8, hm8, hp8⟩ := prs_of_row HO9.out
           have lds := loadDs_con HD9.out.con
           have n0f := cell_at (i := 0) (v := .int .i64 n) HD9.out.num rfl
           have st14 := storeCo_at (cs := conC z org fmt len blk n a8 LL.length c8) (heap_alloc_new w9 (.cells conZ 26)) rfl rfl one_con
           have HX14 := Lib.hid (setRow_heap _ _ _ (conC z org fmt len blk n a8 LL.length c8) _ _ (heap_alloc_new w9 (.cells conZ 26)))
           have HB14 := Lib.hid (below_setRow (box_below w9 conZ 26) (Nat.le_refl _) (conC z org fmt len blk n a8 LL.length c8))
           have HS14 := Lib.hid (show ((w9.alloc (.cells conZ 26)).setRow w9.heap.size (conC z org fmt len blk n a8 LL.length c8)).heap.size = w9.heap.size + 1 by simp)
           generalize (w9.alloc (.cells conZ 26)).setRow w9.heap.size (conC z org fmt len blk n a8 LL.length c8) = w14 at st14 HX14 HB14 HS14
           have ld14 := loadCo_at HX14.out rfl
           have st15 := storeCo_at (cs := conC z org fmt len blk n a8 LL.length c8) (heap_alloc_new w14 (.cells conZ 26)) rfl rfl one_con
           have HX15 := Lib.hid (setRow_heap _ _ _ (conC z org fmt len blk n a8 LL.length c8) _ _ (heap_alloc_new w14 (.cells conZ 26)))
           have HB15 := Lib.hid (below_setRow (box_below w14 conZ 26) (Nat.le_refl _) (conC z org fmt len blk n a8 LL.length c8))
           have HS15 := Lib.hid (show ((w14.alloc (.cells conZ 26)).setRow w14.heap.size (conC z org fmt len blk n a8 LL.length c8)).heap.size = w14.heap.size + 1 by simp)
           generalize (w14.alloc (.cells conZ 26)).setRow w14.heap.size (conC z org fmt len blk n a8 LL.length c8) = w15 at st15 HX15 HB15 HS15
           have ld15 := loadCo_at HX15.out rfl
           have HBF := Lib.hid (HB14.out.trans (HB15.out.mono HB14.out.size))
           have HOZ := Lib.hid (own_below HO9.out HBF.out)
           have HDZ := Lib.hid (HD9.out.below HBF.out HD9.out.size)
           have HX14b := Lib.hid (heap_below HB15.out (lt_of_block HX14.out) HX14.out)
           have HVF := Lib.hid (r49valid_any (z := z) w15 w9.heap.size a8 c8 LL org fmt len blk n (hp8.below HBF.out) HBF.out.size HL9.out.1 hc8 hvo how HL9.out.2)
           have gl : decide ((1024 : Int) < (LL.length : Int)) = false := by have := HL9.out.1; simp; omega
           clear hp8
           cases hvf : valP z org fmt len blk n LL with
           | false =>
             rw [hvf] at HVF
             have H := Lib.hid (show rdoV z org fmt len blk ap l n 1 id key rec vol = (2, 0, []) by rw [HR.out, HRJ.out]; show (if (0 : Int) ≠ 0 then _ else _) = _; rw [if_neg (by decide), if_pos hvf])
             clear hvf
             go_wp2_with fail
             refine HVF.out.mono ?_
             rintro e w16 ⟨rfl, hb16⟩
             obtain ⟨w9, stz, hx, hf⟩ := rd_no (HDZ.out.below hb16 HDZ.out.size) none 2 (by decide)
             have HF := Lib.hid hf
             have lr := loadCo_at hx rfl
             clear hb16 hx hf st14 st15 ld14 ld15 lds n0f
             go_wp2_with fail
             refine ret_cell_tmp rfl rfl rfl rfl lr ?_
             rw [H.out]; exact HF.out
           | true =>
             rw [hvf] at HVF
             have H := Lib.hid (show rdoV z org fmt len blk ap l n 1 id key rec vol = (0, n, LL) by rw [HR.out, HRJ.out]; show (if (0 : Int) ≠ 0 then _ else _) = _; rw [if_neg (by decide), if_neg (by rw [hvf]; decide)])
             clear hvf
             go_wp2_with fail
             refine HVF.out.mono ?_
             rintro e w16 ⟨rfl, hb16⟩
             have HDQ := Lib.hid (HDZ.out.below hb16 HDZ.out.size)
             have HOQ := Lib.hid (own_setRow (own_below HOZ.out hb16) (show w.heap.size + 2 < w6.heap.size by have := HZ4.out; omega) (conC z org fmt len blk n a8 LL.length c8))
             have ld16 := loadCo_at (heap_below hb16 (lt_of_block HX14b.out) HX14b.out) rfl
             have st17 := storeCo_at (cs := conC z org fmt len blk n a8 LL.length c8) HDQ.out.res rfl rfl one_con
             have HX17 := Lib.hid (setRow_heap w16 _ _ (conC z org fmt len blk n a8 LL.length c8) _ _ HDQ.out.res)
             have HB17 := Lib.hid (below_setRow HDQ.out.bel (show w.heap.size ≤ w.heap.size + 2 by omega) (conC z org fmt len blk n a8 LL.length c8))
             clear hb16 st14 st15 ld14 ld15 lds n0f
             generalize w16.setRow (w.heap.size + 2) (conC z org fmt len blk n a8 LL.length c8) = w17 at st17 HX17 HB17 HOQ
             have lr := loadCo_at HX17.out rfl
             go_wp2_with fail
             refine ret_cell_tmp rfl rfl rfl rfl lr ?_
             rw [H.out]
             refine ⟨⟨_, rfl, fun _ => ⟨a8, c8, rfl, hc8, hm8, ?_, fun p hp => Or.inr (by have := row_own HOQ.out (k := p.block) (by rw [hp]; rfl); have := HZ4.out; omega)⟩, fun h => absurd rfl h⟩, HB17.out⟩
             obtain ⟨a6, c6, he6, _, _, hp6⟩ := prs_of_row HOQ.out
             have : a8 = a6 := by injection he6
             rw [this]; exact hp6
         | false =>
           have HPA := Lib.hid hpA1
           have HRJ := Lib.hid (show rdoR z org l 1 key rec = (0, (l.take i ++ []) ++ l.drop i) by rw [HRR.out]; rfl)
           clear hlt hpA1 hp6 HRR
           go_wp2_with (at_builtin; refine wpList_append_prs rfl _ _ rfl w6.heap.size _ [] (l.take i) rfl hown (some ⟨g, 0, none⟩) i _ c5 rfl HTK.out.symm HPT.out (by rw [HTK.out]; simp; omega) (by simp) ?_)
           intro v7 w7 ho7 hg7 hn7
           have hb7 := HB6.out.grown hg7 (by simp) (fun k hk => row_own hown hk)
           have HO7 := Lib.hid (show PrRow w7 w6.heap.size v7 (l.take i) from ho7)
           have HN7 := Lib.hid (show v7 ≠ .slice none 0 0 by first | exact hn7 | exact hn7 (by simp))
           have HB7 := Lib.hid hb7
           have HD7 := Lib.hid (HD6.out.below hb7 HZ4.out)
           have r0 := cell_at (i := 0) (v := .int .i64 1) HD7.out.ch rfl
           have r2 := cell_at (i := 2) (v := .string ⟨key.toArray⟩) HD7.out.ch rfl
           have r3 := cell_at (i := 3) (v := .string ⟨rec.toArray⟩) HD7.out.ch rfl
           clear hg7 hn7 ho7 hb7 hown
           have HO7b := Lib.hid (show PrRow w7 w6.heap.size v7 (l.take i ++ []) by rw [List.append_nil]; exact HO7.out)
           go_wp2_with (at_builtin; refine wpList_append_prs rfl _ _ rfl w6.heap.size v7 (l.take i ++ []) (l.drop i) rfl HO7b.out (some A1) (l.length - i) _ (c5 - i) rfl (by rw [List.length_drop]) (HPA.out.below HB7.out) (by simp; omega) HB7.out.size ?_)
           intro v9 w9 ho9 hg9 _
           have HO9 := Lib.hid (show PrRow w9 w6.heap.size v9 ((l.take i ++ []) ++ l.drop i) by simpa using ho9)
           have HB9 := Lib.hid (HB7.out.grown hg9 HB7.out.size (fun k hk => row_own HO7b.out hk))
           have HD9 := Lib.hid (HD6.out.below HB9.out HZ4.out)
           have HL9 := Lib.hid (show ((l.take i ++ []) ++ l.drop i).length ≤ 900 ∧ ∀ p ∈ (l.take i ++ []) ++ l.drop i, p.1.length ≤ 100000 ∧ p.2.length ≤ 100000 by
             refine ⟨by simp; omega, fun p hp => ?_⟩
             rcases List.mem_append.1 hp with h | h
             · rcases List.mem_append.1 h with h | h
               · exact HKL.out p (List.mem_of_mem_take h)
               · first | (obtain rfl := List.mem_singleton.1 h; exact ⟨hk, hr⟩) | cases h
             · exact HKL.out p (List.mem_of_mem_drop h))
           clear hg9 ho9 r0 r2 r3
           generalize hLL : (l.take i ++ []) ++ l.drop i = LL at HO9 HL9 HRJ
           clear hLL
           obtain ⟨a8, c8, rfl, hc8, hm8, hp8⟩ := prs_of_row HO9.out
           have lds := loadDs_con HD9.out.con
           have n0f := cell_at (i := 0) (v := .int .i64 n) HD9.out.num rfl
           have st14 := storeCo_at (cs := conC z org fmt len blk n a8 LL.length c8) (heap_alloc_new w9 (.cells conZ 26)) rfl rfl one_con
           have HX14 := Lib.hid (setRow_heap _ _ _ (conC z org fmt len blk n a8 LL.length c8) _ _ (heap_alloc_new w9 (.cells conZ 26)))
           have HB14 := Lib.hid (below_setRow (box_below w9 conZ 26) (Nat.le_refl _) (conC z org fmt len blk n a8 LL.length c8))
           have HS14 := Lib.hid (show ((w9.alloc (.cells conZ 26)).setRow w9.heap.size (conC z org fmt len blk n a8 LL.length c8)).heap.size = w9.heap.size + 1 by simp)
           generalize (w9.alloc (.cells conZ 26)).setRow w9.heap.size (conC z org fmt len blk n a8 LL.length c8) = w14 at st14 HX14 HB14 HS14
           have ld14 := loadCo_at HX14.out rfl
           have st15 := storeCo_at (cs := conC z org fmt len blk n a8 LL.length c8) (heap_alloc_new w14 (.cells conZ 26)) rfl rfl one_con
           have HX15 := Lib.hid (setRow_heap _ _ _ (conC z org fmt len blk n a8 LL.length c8) _ _ (heap_alloc_new w14 (.cells conZ 26)))
           have HB15 := Lib.hid (below_setRow (box_below w14 conZ 26) (Nat.le_refl _) (conC z org fmt len blk n a8 LL.length c8))
           have HS15 := Lib.hid (show ((w14.alloc (.cells conZ 26)).setRow w14.heap.size (conC z org fmt len blk n a8 LL.length c8)).heap.size = w14.heap.size + 1 by simp)
           generalize (w14.alloc (.cells conZ 26)).setRow w14.heap.size (conC z org fmt len blk n a8 LL.length c8) = w15 at st15 HX15 HB15 HS15
           have ld15 := loadCo_at HX15.out rfl
           have HBF := Lib.hid (HB14.out.trans (HB15.out.mono HB14.out.size))
           have HOZ := Lib.hid (own_below HO9.out HBF.out)
           have HDZ := Lib.hid (HD9.out.below HBF.out HD9.out.size)
           have HX14b := Lib.hid (heap_below HB15.out (lt_of_block HX14.out) HX14.out)
           have HVF := Lib.hid (r49valid_any (z := z) w15 w9.heap.size a8 c8 LL org fmt len blk n (hp8.below HBF.out) HBF.out.size HL9.out.1 hc8 hvo how HL9.out.2)
           have gl : decide ((1024 : Int) < (LL.length : Int)) = false := by have := HL9.out.1; simp; omega
           clear hp8
           cases hvf : valP z org fmt len blk n LL with
           | false =>
             rw [hvf] at HVF
             have H := Lib.hid (show rdoV z org fmt len blk ap l n 1 id key rec vol = (2, 0, []) by rw [HR.out, HRJ.out]; show (if (0 : Int) ≠ 0 then _ else _) = _; rw [if_neg (by decide), if_pos hvf])
             clear hvf
             go_wp2_with fail
             refine HVF.out.mono ?_
             rintro e w16 ⟨rfl, hb16⟩
             obtain ⟨w9, stz, hx, hf⟩ := rd_no (HDZ.out.below hb16 HDZ.out.size) none 2 (by decide)
             have HF := Lib.hid hf
             have lr := loadCo_at hx rfl
             clear hb16 hx hf st14 st15 ld14 ld15 lds n0f
             go_wp2_with fail
             refine ret_cell_tmp rfl rfl rfl rfl lr ?_
             rw [H.out]; exact HF.out
           | true =>
             rw [hvf] at HVF
             have H := Lib.hid (show rdoV z org fmt len blk ap l n 1 id key rec vol = (0, n, LL) by rw [HR.out, HRJ.out]; show (if (0 : Int) ≠ 0 then _ else _) = _; rw [if_neg (by decide), if_neg (by rw [hvf]; decide)])
             clear hvf
             go_wp2_with fail
             refine HVF.out.mono ?_
             rintro e w16 ⟨rfl, hb16⟩
             have HDQ := Lib.hid (HDZ.out.below hb16 HDZ.out.size)
             have HOQ := Lib.hid (own_setRow (own_below HOZ.out hb16) (show w.heap.size + 2 < w6.heap.size by have := HZ4.out; omega) (conC z org fmt len blk n a8 LL.length c8))
             have ld16 := loadCo_at (heap_below hb16 (lt_of_block HX14b.out) HX14b.out) rfl
             have st17 := storeCo_at (cs := conC z org fmt len blk n a8 LL.length c8) HDQ.out.res rfl rfl one_con
             have HX17 := Lib.hid (setRow_heap w16 _ _ (conC z org fmt len blk n a8 LL.length c8) _ _ HDQ.out.res)
             have HB17 := Lib.hid (below_setRow HDQ.out.bel (show w.heap.size ≤ w.heap.size + 2 by omega) (conC z org fmt len blk n a8 LL.length c8))
             clear hb16 st14 st15 ld14 ld15 lds n0f
             generalize w16.setRow (w.heap.size + 2) (conC z org fmt len blk n a8 LL.length c8) = w17 at st17 HX17 HB17 HOQ
             have lr := loadCo_at HX17.out rfl
             go_wp2_with fail
             refine ret_cell_tmp rfl rfl rfl rfl lr ?_
             rw [H.out]
             refine ⟨⟨_, rfl, fun _ => ⟨a8, c8, rfl, hc8, hm8, ?_, fun p hp => Or.inr (by have := row_own HOQ.out (k := p.block) (by rw [hp]; rfl); have := HZ4.out; omega)⟩, fun h => absurd rfl h⟩, HB17.out⟩
             obtain ⟨a6, c6, he6, _, _, hp6⟩ := prs_of_row HOQ.out
             have : a8 = a6 := by injection he6
             rw [this]; exact hp6

end

end Go.Proofs.YtckpepfkfjdnhaaGreatDoor

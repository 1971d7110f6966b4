/-
  Walk: a content after a change, by the reference, where it is refused at once or changes nothing. Conditions: pairs in memory, not too many.
  Walk: a content after a change, by the reference: the kinds that leave the pairs as they are, or take them all. Conditions: a valid content and change; pairs in memory, not too many.
-/
import Derived.Test.YtckpepfkfjdnhaaGreatDoorNX
import Derived.Test.YtckpepfkfjdnhaaGreatDoorNJ21
import Derived.Lib.Walk
namespace Go.Proofs.YtckpepfkfjdnhaaGreatDoor

section
open Go.RowKit Go.Sort
variable {z : Rest}

theorem rd_no {w W : World} {org fmt len blk ap : Int} {a : Option Addr} {m c : Nat} {n kind id : Int} {key rec vol : By} (h : RdSt w W z org fmt len blk ap a m c n kind id key rec vol) (a0 : Option Addr) (er : Int) (her : er ≠ 0) :
   ∃ w9, (storeCo ⟨w.heap.size + 2, 0, none⟩ (.agg conZ)).run Tryz.prog W = .ok () w9 ∧ w9.heap[w.heap.size + 2]? = some (.cells conZ 26 (0, 0)) ∧ DoRet z org fmt len blk a0 w (er, 0, []) (.returned (.tuple #[.agg conZ, .int .i64 er])) w9 :=
 ⟨_, storeCo_at h.res rfl rfl (by simp [Value.oneCell']), setRow_heap _ _ _ _ _ _ h.res, ⟨⟨_, rfl, fun h0 => absurd h0 her, fun _ => rfl⟩, below_setRow h.bel (show w.heap.size ≤ w.heap.size + 2 by omega) _⟩⟩

section
attribute [local go_sem ↓] loadDs_down loadCo_down storeCo_down loadCh_down storeCh_down
set_option maxRecDepth 100000 in
set_option maxHeartbeats 4000000 in
theorem rdo_bad (w : World) (B : Nat) (a : Option Addr) (cap : Nat) (l : List Pr) (org fmt len blk ap n kind id : Int) (key rec vol : By) (hP : Prs w B a l) (hB : B ≤ w.heap.size) (hlc : l.length ≤ cap) (hcm : cap ≤ maxLen) (hl : l.length ≤ 800) (hvo : z.vol.length ≤ 9223372036854775807) (how : z.own.length ≤ 9223372036854775807)
   (hk : key.length ≤ 100000) (hr : rec.length ≤ 100000) (hv : vol.length ≤ 1000000) (hkl : ∀ p ∈ l, p.1.length ≤ 100000 ∧ p.2.length ≤ 100000)
   (hbad : valP z org fmt len blk ap l = false ∨ chgP kind id key rec vol = false ∨ n < 1 ∨ 1099511627776 < n ∨ id ≠ z.id ∨ n ≤ ap) :
   Calls Tryz.prog 14 #[.agg (conC z org fmt len blk ap a l.length cap), .agg (numC n kind id key rec vol)] w (DoRet z org fmt len blk a w (rdoV z org fmt len blk ap l n kind id key rec vol)) := by
 obtain ⟨W, hst, hE⟩ := rd_start (z := z) w org fmt len blk ap a l.length cap n kind id key rec vol
 have hD := do_start (z := z) w org fmt len blk ap a l.length cap n kind id key rec vol
 have ldn := loadCh_num hD.num
 have HE := Lib.hid hE
 have HS := Lib.hid hP
 have HKL := Lib.hid hkl
 have HBAD := Lib.hid hbad
 have HR := Lib.hid (show rdoV z org fmt len blk ap l n kind id key rec vol = if valP z org fmt len blk ap l = false ∨ chgP kind id key rec vol = false ∨ n < 1 ∨ 1099511627776 < n then (1, 0, []) else if id ≠ z.id ∨ n ≤ ap then (0, ap, l) else if (rdoR z org l kind key rec).1 ≠ 0 then ((rdoR z org l kind key rec).1, 0, []) else if valP z org fmt len blk n (rdoR z org l kind key rec).2 = false then (2, 0, []) else (0, n, (rdoR z org l kind key rec).2) from rfl)
 have ldc := loadCo_at hE.con rfl
 have HVA := Lib.hid (r49valid_any (z := z) W B a cap l org fmt len blk ap (HS.out.below (HE.out.bel.mono hB)) (Nat.le_trans hB HE.out.bel.size) (by omega) hlc hvo how HKL.out)
 clear hP hkl hE hbad hD
 cases hva : valP z org fmt len blk ap l with
 | false =>
   rw [hva] at HVA
   have H := Lib.hid (show rdoV z org fmt len blk ap l n kind id key rec vol = (1, 0, []) by rw [HR.out, if_pos (Or.inl hva)])
   clear hva
   go_enter Tryz.func14, Tryz.ntmps14
   go_wp2_with fail
   refine HVA.out.mono ?_
   rintro e w3 ⟨rfl, hb3⟩
   obtain ⟨w9, stz, hx, hf⟩ := rd_no (HE.out.below hb3 HE.out.size) a 1 (by decide)
   have HF := Lib.hid hf
   have lr := loadCo_at hx rfl
   clear ldc hb3 hx hf hst ldn
   go_wp2_with fail
   refine ret_cell_tmp rfl rfl rfl rfl lr ?_
   rw [H.out]; exact HF.out
 | true =>
   rw [hva] at HVA
   have HVL := Lib.hid hva
   clear hva
   have HCH := Lib.hid (fun W' => rcvalid_any kind id key rec vol W' (by omega) (by omega) hv)
   cases hch : chgP kind id key rec vol with
   | false =>
     rw [hch] at HCH
     have H := Lib.hid (show rdoV z org fmt len blk ap l n kind id key rec vol = (1, 0, []) by rw [HR.out, if_pos (Or.inr (Or.inl hch))])
     clear hch
     go_enter Tryz.func14, Tryz.ntmps14
     go_wp2_with fail
     refine HVA.out.mono ?_
     rintro e w3 ⟨rfl, hb3⟩
     have HD3 := Lib.hid (HE.out.below hb3 HE.out.size)
     have lch := loadCh_at HD3.out.ch rfl
     have HZ3 := Lib.hid hb3.size
     clear ldc hb3 hst ldn
     go_wp2_with fail
     refine (HCH.out w3).mono ?_
     rintro e w4 ⟨rfl, hb4⟩
     obtain ⟨w9, stz, hx, hf⟩ := rd_no (HD3.out.below hb4 HD3.out.size) a 1 (by decide)
     have HF := Lib.hid hf
     have lr := loadCo_at hx rfl
     clear hb4 hx hf lch
     go_wp2_with fail
     refine ret_cell_tmp rfl rfl rfl rfl lr ?_
     rw [H.out]; exact HF.out
   | true =>
     rw [hch] at HCH
     have HCT := Lib.hid hch
     clear hch
     go_enter Tryz.func14, Tryz.ntmps14
     go_wp2_with fail
     refine HVA.out.mono ?_
     rintro e w3 ⟨rfl, hb3⟩
     have HD3 := Lib.hid (HE.out.below hb3 HE.out.size)
     have lch := loadCh_at HD3.out.ch rfl
     clear ldc hb3 hst ldn
     go_wp2_with fail
     refine (HCH.out w3).mono ?_
     rintro e w4 ⟨rfl, hb4⟩
     have HD4 := Lib.hid (HD3.out.below hb4 HD3.out.size)
     have n0 := cell_at (i := 0) (v := .int .i64 n) HD4.out.num rfl
     clear hb4 lch
     by_cases h1 : n < 1
     · have H := Lib.hid (show rdoV z org fmt len blk ap l n kind id key rec vol = (1, 0, []) by rw [HR.out, if_pos (Or.inr (Or.inr (Or.inl h1)))])
       obtain ⟨w9, stz, hx, hf⟩ := rd_no HD4.out a 1 (by decide)
       have HF := Lib.hid hf
       have lr := loadCo_at hx rfl
       have d1 : decide (n < 1) = true := by simpa using h1
       clear hx hf h1
       go_wp2_with fail
       refine ret_cell_tmp rfl rfl rfl rfl lr ?_
       rw [H.out]; exact HF.out
     · have d1 : decide (n < 1) = false := by simpa using h1
       by_cases h2 : 1099511627776 < n
       · have H := Lib.hid (show rdoV z org fmt len blk ap l n kind id key rec vol = (1, 0, []) by rw [HR.out, if_pos (Or.inr (Or.inr (Or.inr h2)))])
         obtain ⟨w9, stz, hx, hf⟩ := rd_no HD4.out a 1 (by decide)
         have HF := Lib.hid hf
         have lr := loadCo_at hx rfl
         have d2 : decide (1099511627776 < n) = true := by simpa using h2
         clear hx hf h1 h2
         go_wp2_with fail
         refine ret_cell_tmp rfl rfl rfl rfl lr ?_
         rw [H.out]; exact HF.out
       · have d2 : decide (1099511627776 < n) = false := by simpa using h2
         have hskip : id ≠ z.id ∨ n ≤ ap := by
           rcases HBAD.out with h | h | h | h | h | h
           · rw [HVL.out] at h; cases h
           · rw [HCT.out] at h; cases h
           · exact absurd h h1
           · exact absurd h h2
           · exact Or.inl h
           · exact Or.inr h
         have H := Lib.hid (show rdoV z org fmt len blk ap l n kind id key rec vol = (0, ap, l) by
           rw [HR.out, if_neg (by rw [HVL.out, HCT.out]; rintro (h | h | h | h); cases h; cases h; exact h1 h; exact h2 h), if_pos hskip])
         clear h1 h2 HR
         have k0 := cell_at (i := 0) (v := .int .i64 z.id) HD4.out.con rfl
         have k21 := cell_at (i := 21) (v := .int .i64 ap) HD4.out.con rfl
         have q1 := cell_at (i := 1) (v := .int .i64 id) HD4.out.ch rfl
         have ld4 := loadCo_at HD4.out.con rfl
         have stc := storeCo_at (cs := conC z org fmt len blk ap a l.length cap) HD4.out.res rfl rfl one_con
         have HF := Lib.hid (show DoRet z org fmt len blk a w (0, ap, l) (.returned (.tuple #[.agg (conC z org fmt len blk ap a l.length cap), .int .i64 0])) (w4.setRow (w.heap.size + 2) (conC z org fmt len blk ap a l.length cap)) by
           have hbl := below_setRow HD4.out.bel (show w.heap.size ≤ w.heap.size + 2 by omega) (conC z org fmt len blk ap a l.length cap)
           exact ⟨⟨_, rfl, fun _ => ⟨a, cap, rfl, hlc, hcm, (HS.out.below (hbl.mono hB)).mono (Nat.le_trans hB hbl.size), fun p _ => Or.inl rfl⟩, fun h => absurd rfl h⟩, hbl⟩)
         have HX := Lib.hid (setRow_heap w4 _ _ (conC z org fmt len blk ap a l.length cap) _ _ HD4.out.res)
         generalize w4.setRow (w.heap.size + 2) (conC z org fmt len blk ap a l.length cap) = W5 at stc HF HX
         have lr := loadCo_at HX.out rfl
         by_cases hid : id = z.id
         · have e1 : (id != z.id) = false := by simp [hid]
           have e2 : decide (n ≤ ap) = true := by simp; rcases hskip with h | h; exact absurd hid h; exact h
           clear hskip hid
           go_wp2_with fail
           refine ret_cell_tmp rfl rfl rfl rfl lr ?_
           rw [H.out]; exact HF.out
         · have e1 : (id != z.id) = true := by simp [hid]
           clear hskip hid
           go_wp2_with fail
           refine ret_cell_tmp rfl rfl rfl rfl lr ?_
           rw [H.out]; exact HF.out
end
end

section
open Go.RowKit Go.Sort
variable {z : Rest}

section
attribute [local go_sem ↓] loadDs_down loadCo_down storeCo_down loadCh_down storeCh_down
set_option maxRecDepth 100000 in
set_option maxHeartbeats 8000000 in
theorem rdo_rest (w : World) (B : Nat) (a : Option Addr) (cap : Nat) (l : List Pr) (org fmt len blk ap n kind id : Int) (key rec vol : By) (hP : Prs w B a l) (hB : B ≤ w.heap.size) (hlc : l.length ≤ cap) (hl : l.length ≤ 800) (hvo : z.vol.length ≤ 9223372036854775807) (how : z.own.length ≤ 9223372036854775807)
   (hk : key.length ≤ 100000) (hr : rec.length ≤ 100000) (hv : vol.length ≤ 1000000) (hkl : ∀ p ∈ l, p.1.length ≤ 100000 ∧ p.2.length ≤ 100000)
   (hva : valP z org fmt len blk ap l = true) (hch : chgP kind id key rec vol = true) (h1 : ¬ n < 1) (h2 : ¬ 1099511627776 < n) (hid : id = z.id) (hap : ¬ n ≤ ap) (hkind : kind ≠ 0 ∧ kind ≠ 1 ∧ kind ≠ 2) :
   Calls Tryz.prog 14 #[.agg (conC z org fmt len blk ap a l.length cap), .agg (numC n kind id key rec vol)] w (DoRet z org fmt len blk none w (rdoV z org fmt len blk ap l n kind id key rec vol)) := by
 obtain ⟨W, hst, hE⟩ := rd_start (z := z) w org fmt len blk ap a l.length cap n kind id key rec vol
 have hD := do_start (z := z) w org fmt len blk ap a l.length cap n kind id key rec vol
 have ldn := loadCh_num hD.num
 have HE := Lib.hid hE
 have HS := Lib.hid hP
 have HKL := Lib.hid hkl
 have HR := Lib.hid (show rdoV z org fmt len blk ap l n kind id key rec vol = if (rdoR z org l kind key rec).1 ≠ 0 then ((rdoR z org l kind key rec).1, 0, []) else if valP z org fmt len blk n (rdoR z org l kind key rec).2 = false then (2, 0, []) else (0, n, (rdoR z org l kind key rec).2) by
   unfold rdoV
   rw [if_neg (by rw [hva, hch]; rintro (h | h | h | h); cases h; cases h; exact h1 h; exact h2 h), if_neg (by rintro (h | h); exact h hid; exact hap h)])
 have HKIND := Lib.hid (show 0 ≤ kind ∧ kind ≤ 7 by
   unfold chgP at hch; simp only [Bool.and_eq_true, decide_eq_true_eq] at hch; exact hch.1.1.1.1)
 have ldc := loadCo_at hE.con rfl
 have HVA := Lib.hid (r49valid_any (z := z) W B a cap l org fmt len blk ap (HS.out.below (HE.out.bel.mono hB)) (Nat.le_trans hB HE.out.bel.size) (by omega) hlc hvo how HKL.out)
 have HCH := Lib.hid (fun W' => rcvalid_any kind id key rec vol W' (by omega) (by omega) hv)
 have HVL := Lib.hid hva
 rw [hva] at HVA
 rw [hch] at HCH
 have d1 : decide (n < 1) = false := by simpa using h1
 have d2 : decide (1099511627776 < n) = false := by simpa using h2
 have e1 : (id != z.id) = false := by simp [hid]
 have e2 : decide (n ≤ ap) = false := by simpa using hap
 clear hP hkl hE hD hva hch h1 h2 hid hap
 go_enter Tryz.func14, Tryz.ntmps14
 go_wp2_with fail
 refine HVA.out.mono ?_
 rintro e w3 ⟨rfl, hb3⟩
 have HD3 := Lib.hid (HE.out.below hb3 HE.out.size)
 have lch := loadCh_at HD3.out.ch rfl
 clear ldc hb3 hst ldn
 go_wp2_with fail
 refine (HCH.out w3).mono ?_
 rintro e w4 ⟨rfl, hb4⟩
 have HD4 := Lib.hid (HD3.out.below hb4 HD3.out.size)
 have n0 := cell_at (i := 0) (v := .int .i64 n) HD4.out.num rfl
 have k0 := cell_at (i := 0) (v := .int .i64 z.id) HD4.out.con rfl
 have k1 := cell_at (i := 1) (v := .int .i64 org) HD4.out.con rfl
 have k21 := cell_at (i := 21) (v := .int .i64 ap) HD4.out.con rfl
 have k22 := cell_at (i := 22) (v := .slice a l.length cap) HD4.out.con rfl
 have k221 : (w4.alloc (.cells #[] 46)).cell? ⟨w.heap.size, 22, none⟩ = some (.slice a l.length cap) := cell_at (i := 22) ((halloc w4 _ (lt_of_block HD4.out.con)).trans HD4.out.con) rfl
 have q1 := cell_at (i := 1) (v := .int .i64 id) HD4.out.ch rfl
 have hown : PrRow (w4.alloc (.cells #[] 46)) w4.heap.size (.slice (some ⟨w4.heap.size, 0, none⟩) 0 0) [] := World.ownsRow_lit w4 #[] 0 (Nat.le_refl _) (by simp [maxLen]) rfl
 have HB4 := Lib.hid (box_below w4 #[] 46)
 have HS4 := Lib.hid ((HS.out.below (HD4.out.bel.mono hB)).below (HB4.out.mono (Nat.le_trans hB HD4.out.bel.size)))
 clear hb4 lch
 go_upto_region 6 with fail
 go_cut [7] (fun d wx => d = .bool (dirP org) ∧ wx = w4)
 case first =>
   by_cases h3 : org = 3
   · have HDI := Lib.hid (show dirP org = true by rw [h3]; rfl)
     have e3 : (org == 3) = true := by simp [h3]
     clear h3
     go_wp2_with fail
     go_meet
     exact ⟨by rw [HDI.out], rfl⟩
   · have e3 : (org == 3) = false := by simp [h3]
     by_cases h2 : org = 2
     · have HDI := Lib.hid (show dirP org = true by rw [h2]; rfl)
       have e2' : (org == 2) = true := by simp [h2]
       clear h3 h2
       go_wp2_with fail
       go_meet
       exact ⟨by rw [HDI.out], rfl⟩
     · have HDI := Lib.hid (show dirP org = false by unfold dirP; simp [h3, h2])
       have e2' : (org == 2) = false := by simp [h2]
       clear h3 h2
       go_wp2_with fail
       go_meet
       exact ⟨by rw [HDI.out], rfl⟩
 case rest =>
   obtain ⟨rfl, hwc⟩ := hcut
   have hwc2 := hwc.symm
   clear hwc
   subst hwc2
   go_wp2_with (at_builtin; refine wpList_append_prs rfl _ _ rfl w4.heap.size _ [] l rfl hown a l.length B cap rfl rfl HS4.out (by simp; omega) (by simp) ?_)
   intro v5 w5 ho5 hg5 hn5
   have hb5 := HB4.out.grown hg5 (by simp) (fun k hk => row_own hown hk)
   have HD5 := Lib.hid (HD4.out.below hb5 HD4.out.size)
   have HO5 := Lib.hid ho5
   have HN5 := Lib.hid (show v5 ≠ .slice none 0 0 by first | exact hn5 | exact hn5 (by simp))
   have HZ4 := Lib.hid HD4.out.size
   have HZ5 := Lib.hid hb5.size
   have q0 := cell_at (i := 0) (v := .int .i64 kind) HD5.out.ch rfl
   clear d1 d2 e1 e2 n0 k0 k1 k21 k22 k221 q1 hg5 hn5 ho5 hb5 hown HVA HCH
   have j0 : (kind == 0) = false := by simp [hkind.1]
   have j1 : (kind == 1) = false := by simp [hkind.2.1]
   have j2 : (kind == 2) = false := by simp [hkind.2.2]
   by_cases h3 : kind = 3
   · have j3 : (kind == 3) = true := by simp [h3]
     have HRR := Lib.hid (show rdoR z org l kind key rec = (0, []) by unfold rdoR; rw [if_neg (by omega), if_neg hkind.2.2, if_pos h3])
     have HO5n := Lib.hid (show PrRow w5 w4.heap.size (.slice none 0 0) [] from own_nil _ _ _ _)
     have HLn := Lib.hid (show ([] : List Pr).length ≤ 900 ∧ ∀ p ∈ ([] : List Pr), p.1.length ≤ 100000 ∧ p.2.length ≤ 100000 from ⟨by simp, fun p hp => by cases hp⟩)
     clear hkind h3
     have hp8 := prs_nil w5 w5.heap.size none
     have hc8 : (0 : Nat) ≤ 0 := Nat.le_refl 0
     have hm8 : (0 : Nat) ≤ maxLen := by simp
     have lds := loadDs_con HD5.out.con
     have n0f := cell_at (i := 0) (v := .int .i64 n) HD5.out.num rfl
     have st14 := storeCo_at (cs := conC z org fmt len blk n none 0 0) (heap_alloc_new w5 (.cells conZ 26)) rfl rfl one_con
     have HX14 := Lib.hid (setRow_heap _ _ _ (conC z org fmt len blk n none 0 0) _ _ (heap_alloc_new w5 (.cells conZ 26)))
     have HB14 := Lib.hid (below_setRow (box_below w5 conZ 26) (Nat.le_refl _) (conC z org fmt len blk n none 0 0))
     have HS14 := Lib.hid (show ((w5.alloc (.cells conZ 26)).setRow w5.heap.size (conC z org fmt len blk n none 0 0)).heap.size = w5.heap.size + 1 by simp)
     generalize (w5.alloc (.cells conZ 26)).setRow w5.heap.size (conC z org fmt len blk n none 0 0) = w14 at st14 HX14 HB14 HS14
     have ld14 := loadCo_at HX14.out rfl
     have st15 := storeCo_at (cs := conC z org fmt len blk n none 0 0) (heap_alloc_new w14 (.cells conZ 26)) rfl rfl one_con
     have HX15 := Lib.hid (setRow_heap _ _ _ (conC z org fmt len blk n none 0 0) _ _ (heap_alloc_new w14 (.cells conZ 26)))
     have HB15 := Lib.hid (below_setRow (box_below w14 conZ 26) (Nat.le_refl _) (conC z org fmt len blk n none 0 0))
     have HS15 := Lib.hid (show ((w14.alloc (.cells conZ 26)).setRow w14.heap.size (conC z org fmt len blk n none 0 0)).heap.size = w14.heap.size + 1 by simp)
     generalize (w14.alloc (.cells conZ 26)).setRow w14.heap.size (conC z org fmt len blk n none 0 0) = w15 at st15 HX15 HB15 HS15
     have ld15 := loadCo_at HX15.out rfl
     have HBF := Lib.hid (HB14.out.trans (HB15.out.mono HB14.out.size))
     have HOZ := Lib.hid (own_below HO5n.out HBF.out)
     have HDZ := Lib.hid (HD5.out.below HBF.out HD5.out.size)
     have HX14b := Lib.hid (heap_below HB15.out (lt_of_block HX14.out) HX14.out)
     have HVF := Lib.hid (r49valid_any (z := z) w15 w5.heap.size none 0 [] org fmt len blk n (hp8.below HBF.out) HBF.out.size (by simp) (by simp) hvo how (fun p hp => by cases hp))
     clear hp8
     cases hvf : valP z org fmt len blk n [] with
     | false =>
       rw [hvf] at HVF
       have H := Lib.hid (show rdoV z org fmt len blk ap l n kind id key rec vol = (2, 0, []) by rw [HR.out, HRR.out]; show (if (0 : Int) ≠ 0 then _ else _) = _; rw [if_neg (by decide), if_pos hvf])
       clear hvf
       go_wp2_with fail
       refine HVF.out.mono ?_
       rintro e w16 ⟨rfl, hb16⟩
       obtain ⟨w9, stz, hx, hf⟩ := rd_no (HDZ.out.below hb16 HDZ.out.size) none 2 (by decide)
       have HF := Lib.hid hf
       have lr := loadCo_at hx rfl
       clear hb16 hx hf st14 st15 ld14 ld15 lds n0f
       go_wp2_with fail
       refine ret_cell_tmp rfl rfl rfl rfl lr ?_
       rw [H.out]; exact HF.out
     | true =>
       rw [hvf] at HVF
       have H := Lib.hid (show rdoV z org fmt len blk ap l n kind id key rec vol = (0, n, []) by rw [HR.out, HRR.out]; show (if (0 : Int) ≠ 0 then _ else _) = _; rw [if_neg (by decide), if_neg (by rw [hvf]; decide)])
       clear hvf
       go_wp2_with fail
       refine HVF.out.mono ?_
       rintro e w16 ⟨rfl, hb16⟩
       have HDQ := Lib.hid (HDZ.out.below hb16 HDZ.out.size)
       have HOQ := Lib.hid (own_setRow (own_below HOZ.out hb16) (show w.heap.size + 2 < w4.heap.size by have := HZ4.out; omega) (conC z org fmt len blk n none 0 0))
       have ld16 := loadCo_at (heap_below hb16 (lt_of_block HX14b.out) HX14b.out) rfl
       have st17 := storeCo_at (cs := conC z org fmt len blk n none 0 0) HDQ.out.res rfl rfl one_con
       have HX17 := Lib.hid (setRow_heap w16 _ _ (conC z org fmt len blk n none 0 0) _ _ HDQ.out.res)
       have HB17 := Lib.hid (below_setRow HDQ.out.bel (show w.heap.size ≤ w.heap.size + 2 by omega) (conC z org fmt len blk n none 0 0))
       clear hb16 st14 st15 ld14 ld15 lds n0f
       generalize w16.setRow (w.heap.size + 2) (conC z org fmt len blk n none 0 0) = w17 at st17 HX17 HB17 HOQ
       have lr := loadCo_at HX17.out rfl
       go_wp2_with fail
       refine ret_cell_tmp rfl rfl rfl rfl lr ?_
       rw [H.out]
       refine ⟨⟨_, rfl, fun _ => ⟨none, 0, rfl, hc8, hm8, ?_, fun p hp => Or.inr (by cases hp)⟩, fun h => absurd rfl h⟩, HB17.out⟩
       exact prs_nil _ _ _
   · have j3 : (kind == 3) = false := by simp [h3]
     have HRR := Lib.hid (show rdoR z org l kind key rec = (0, l) by unfold rdoR; rw [if_neg (by omega), if_neg hkind.2.2, if_neg h3])
     have HLl := Lib.hid (show l.length ≤ 900 ∧ ∀ p ∈ l, p.1.length ≤ 100000 ∧ p.2.length ≤ 100000 from ⟨by omega, HKL.out⟩)
     clear hkind h3
     obtain ⟨a8, c8, rfl, hc8, hm8, hp8⟩ := prs_of_row HO5.out
     have lds := loadDs_con HD5.out.con
     have n0f := cell_at (i := 0) (v := .int .i64 n) HD5.out.num rfl
     have st14 := storeCo_at (cs := conC z org fmt len blk n a8 l.length c8) (heap_alloc_new w5 (.cells conZ 26)) rfl rfl one_con
     have HX14 := Lib.hid (setRow_heap _ _ _ (conC z org fmt len blk n a8 l.length c8) _ _ (heap_alloc_new w5 (.cells conZ 26)))
     have HB14 := Lib.hid (below_setRow (box_below w5 conZ 26) (Nat.le_refl _) (conC z org fmt len blk n a8 l.length c8))
     have HS14 := Lib.hid (show ((w5.alloc (.cells conZ 26)).setRow w5.heap.size (conC z org fmt len blk n a8 l.length c8)).heap.size = w5.heap.size + 1 by simp)
     generalize (w5.alloc (.cells conZ 26)).setRow w5.heap.size (conC z org fmt len blk n a8 l.length c8) = w14 at st14 HX14 HB14 HS14
     have ld14 := loadCo_at HX14.out rfl
     have st15 := storeCo_at (cs := conC z org fmt len blk n a8 l.length c8) (heap_alloc_new w14 (.cells conZ 26)) rfl rfl one_con
     have HX15 := Lib.hid (setRow_heap _ _ _ (conC z org fmt len blk n a8 l.length c8) _ _ (heap_alloc_new w14 (.cells conZ 26)))
     have HB15 := Lib.hid (below_setRow (box_below w14 conZ 26) (Nat.le_refl _) (conC z org fmt len blk n a8 l.length c8))
     have HS15 := Lib.hid (show ((w14.alloc (.cells conZ 26)).setRow w14.heap.size (conC z org fmt len blk n a8 l.length c8)).heap.size = w14.heap.size + 1 by simp)
     generalize (w14.alloc (.cells conZ 26)).setRow w14.heap.size (conC z org fmt len blk n a8 l.length c8) = w15 at st15 HX15 HB15 HS15
     have ld15 := loadCo_at HX15.out rfl
     have HBF := Lib.hid (HB14.out.trans (HB15.out.mono HB14.out.size))
     have HOZ := Lib.hid (own_below HO5.out HBF.out)
     have HDZ := Lib.hid (HD5.out.below HBF.out HD5.out.size)
     have HX14b := Lib.hid (heap_below HB15.out (lt_of_block HX14.out) HX14.out)
     have HVF := Lib.hid (r49valid_any (z := z) w15 w5.heap.size a8 c8 l org fmt len blk n (hp8.below HBF.out) HBF.out.size HLl.out.1 hc8 hvo how HLl.out.2)
     have gl : decide ((1024 : Int) < (l.length : Int)) = false := by have := HLl.out.1; simp; omega
     clear hp8
     cases hvf : valP z org fmt len blk n l with
     | false =>
       rw [hvf] at HVF
       have H := Lib.hid (show rdoV z org fmt len blk ap l n kind id key rec vol = (2, 0, []) by rw [HR.out, HRR.out]; show (if (0 : Int) ≠ 0 then _ else _) = _; rw [if_neg (by decide), if_pos hvf])
       clear hvf
       go_wp2_with fail
       refine HVF.out.mono ?_
       rintro e w16 ⟨rfl, hb16⟩
       obtain ⟨w9, stz, hx, hf⟩ := rd_no (HDZ.out.below hb16 HDZ.out.size) none 2 (by decide)
       have HF := Lib.hid hf
       have lr := loadCo_at hx rfl
       clear hb16 hx hf st14 st15 ld14 ld15 lds n0f
       go_wp2_with fail
       refine ret_cell_tmp rfl rfl rfl rfl lr ?_
       rw [H.out]; exact HF.out
     | true =>
       rw [hvf] at HVF
       have H := Lib.hid (show rdoV z org fmt len blk ap l n kind id key rec vol = (0, n, l) by rw [HR.out, HRR.out]; show (if (0 : Int) ≠ 0 then _ else _) = _; rw [if_neg (by decide), if_neg (by rw [hvf]; decide)])
       clear hvf
       go_wp2_with fail
       refine HVF.out.mono ?_
       rintro e w16 ⟨rfl, hb16⟩
       have HDQ := Lib.hid (HDZ.out.below hb16 HDZ.out.size)
       have HOQ := Lib.hid (own_setRow (own_below HOZ.out hb16) (show w.heap.size + 2 < w4.heap.size by have := HZ4.out; omega) (conC z org fmt len blk n a8 l.length c8))
       have ld16 := loadCo_at (heap_below hb16 (lt_of_block HX14b.out) HX14b.out) rfl
       have st17 := storeCo_at (cs := conC z org fmt len blk n a8 l.length c8) HDQ.out.res rfl rfl one_con
       have HX17 := Lib.hid (setRow_heap w16 _ _ (conC z org fmt len blk n a8 l.length c8) _ _ HDQ.out.res)
       have HB17 := Lib.hid (below_setRow HDQ.out.bel (show w.heap.size ≤ w.heap.size + 2 by omega) (conC z org fmt len blk n a8 l.length c8))
       clear hb16 st14 st15 ld14 ld15 lds n0f
       generalize w16.setRow (w.heap.size + 2) (conC z org fmt len blk n a8 l.length c8) = w17 at st17 HX17 HB17 HOQ
       have lr := loadCo_at HX17.out rfl
       go_wp2_with fail
       refine ret_cell_tmp rfl rfl rfl rfl lr ?_
       rw [H.out]
       refine ⟨⟨_, rfl, fun _ => ⟨a8, c8, rfl, hc8, hm8, ?_, fun p hp => Or.inr (by have := row_own HOQ.out (k := p.block) (by rw [hp]; rfl); have := HZ4.out; omega)⟩, fun h => absurd rfl h⟩, HB17.out⟩
       obtain ⟨a6, c6, he6, _, _, hp6⟩ := prs_of_row HOQ.out
       have : a8 = a6 := by injection he6
       rw [this]; exact hp6

end
end

end Go.Proofs.YtckpepfkfjdnhaaGreatDoor

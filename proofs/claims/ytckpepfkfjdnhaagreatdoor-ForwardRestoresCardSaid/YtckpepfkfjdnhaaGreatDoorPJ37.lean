/-
  Walk: a content after a change, by the program. Conditions: pairs in memory, not too many; the laid table of segments' codes.
-/
import Derived.Test.YtckpepfkfjdnhaaGreatDoorPW
namespace Go.Proofs.YtckpepfkfjdnhaaGreatDoor
open Go.RowKit Go.Sort
variable {z : Rest}

theorem info_num : (Tryz.prog.info? 30).map (·.size) = some 6 := by kernel_rfl
def loadNum (p : Addr) : Sem Value := loadVar 30 p
theorem loadNum_down (p : Addr) : loadVar 30 p = loadNum p := rfl
theorem loadNum_at {w : World} {g : Nat} {cs : Array Value} {t : TypeId} {fr : Nat × Nat} (hg : w.heap[g]? = some (.cells cs t fr)) (hi : cs.size = 6) : (loadNum ⟨g, 0, none⟩).run Tryz.prog w = .ok (.agg cs) w :=
 run_loadVar_row (P := Tryz.prog) w g t 30 cs fr _ hg Tryz.underlying30 rfl (by rw [info_num, hi])
/-- A content after a change, with the checks ahead. -/
def doV (z : Rest) (org fmt len blk ap : Int) (l : List Pr) (n kind id : Int) (key rec vol : By) : Int × Int × List Pr :=
 if valP z org fmt len blk ap l = false ∨ chgP kind id key rec vol = false ∨ n < 1 ∨ 1099511627776 < n then (1, 0, []) else doL z org fmt len ap l n kind id key rec
theorem val_desc {org fmt len blk ap : Int} {l : List Pr} (h : valP z org fmt len blk ap l = true) : descP z org fmt len blk = true := by
 unfold valP at h; simp only [Bool.and_eq_true] at h; exact h.1.1.1.1

theorem prs_setRow {w : World} {B g : Nat} {a : Option Addr} {l : List Pr} (h : Prs w B a l) (hg : ∀ p, a = some p → p.block ≠ g) (cs : Array Value) : Prs (w.setRow g cs) B a l := by
 refine ⟨fun hl => ?_⟩
 obtain ⟨b, off, rfl, hb, hc⟩ := h.cells hl
 have hne := hg _ rfl
 refine ⟨b, off, rfl, hb, fun i hi => ?_⟩
 obtain ⟨h1, h2⟩ := hc i hi
 have hbl : b < w.heap.size := block_lt_of_cell h1
 have hs := heap_setRow_other' w (g := g) (i := b) cs hbl hne
 exact ⟨(World.cell?_of_block (w := w) hs).trans h1, (World.cell?_of_block (w := w) hs).trans h2⟩

section
attribute [local go_sem ↓] loadDs_down loadCo_down storeCo_down loadCh_down loadNum_down
set_option maxRecDepth 100000 in
set_option maxHeartbeats 4000000 in
theorem fdo_any (w : World) (B : Nat) (a : Option Addr) (cap : Nat) (l : List Pr) (org fmt len blk ap n kind id : Int) (key rec vol : By) (hP : Prs w B a l) (hB : B ≤ w.heap.size) (hl : l.length ≤ 4000) (hvo : z.vol.length ≤ 9223372036854775807) (how : z.own.length ≤ 9223372036854775807) (hc0 : Codes w)
   (hk : key.length ≤ 100000) (hr : rec.length ≤ 100000) (hv : vol.length ≤ 1000000) (hkl : ∀ p ∈ l, p.1.length ≤ 100000 ∧ p.2.length ≤ 100000) (h64 : I64 kind) :
   Calls Tryz.prog 13 #[.agg (conC z org fmt len blk ap a l.length cap), .agg (numC n kind id key rec vol)] w (DoRet z org fmt len blk none w (doV z org fmt len blk ap l n kind id key rec vol)) := by
 obtain ⟨W, hW⟩ : ∃ W, W = ((w.alloc (.cells (conC z org fmt len blk ap a l.length cap) 26)).alloc (.cells (numC n kind id key rec vol) 30)).alloc (.cells conZ 26) := ⟨_, rfl⟩
 have hE : DoSt w W z org fmt len blk ap a l.length cap n kind id key rec vol := by rw [hW]; exact do_start w org fmt len blk ap a l.length cap n kind id key rec vol
 have HE := Lib.hid hE
 have HW := Lib.hid hW
 have HS := Lib.hid hP
 have HCO := Lib.hid (hc0.below hE.bel hc0.pos)
 have HKL := Lib.hid hkl
 have HC0 := Lib.hid hc0
 have HR := Lib.hid (show doV z org fmt len blk ap l n kind id key rec vol = if valP z org fmt len blk ap l = false ∨ chgP kind id key rec vol = false ∨ n < 1 ∨ 1099511627776 < n then (1, 0, []) else doL z org fmt len ap l n kind id key rec from rfl)
 have ldc := loadCo_at hE.con rfl
 have HVA := Lib.hid (fvalid_any (z := z) W B a cap l org fmt len blk ap (HS.out.below (HE.out.bel.mono hB)) (Nat.le_trans hB HE.out.bel.size) (by omega) hvo how HCO.out HKL.out)
 clear hW hP hc0 hkl hE
 -- what a refusal gives back
 have HNO := Lib.hid (fun (w3 : World) (hb3 : Below W.heap.size W w3) => show ∃ w9, (storeCo ⟨w.heap.size + 2, 0, none⟩ (.agg conZ)).run Tryz.prog w3 = .ok () w9 ∧ w9.heap[w.heap.size + 2]? = some (.cells conZ 26 (0, 0)) ∧ DoRet z org fmt len blk none w (1, 0, []) (.returned (.tuple #[.agg conZ, .int .i64 1])) w9 from
   ⟨_, storeCo_at (HE.out.below hb3).res rfl rfl (by simp [Value.oneCell']), setRow_heap _ _ _ _ _ _ (HE.out.below hb3).res, ⟨⟨_, rfl, fun h => absurd h (show ¬ (1 : Int) = 0 by decide), fun _ => rfl⟩, below_setRow (HE.out.below hb3).bel (show w.heap.size ≤ w.heap.size + 2 by omega) _⟩⟩)
 cases hva : valP z org fmt len blk ap l with
 | false =>
   rw [hva] at HVA
   have H := Lib.hid (show doV z org fmt len blk ap l n kind id key rec vol = (1, 0, []) by rw [HR.out, if_pos (Or.inl hva)])
   clear hva
   go_enter Tryz.func13, Tryz.ntmps13
   go_upto_region 1 with fail
   rw [← HW.out]
   go_wp2_with fail
   refine HVA.out.mono ?_
   rintro e w3 ⟨rfl, hb3⟩
   obtain ⟨w9, stz, hx, hf⟩ := HNO.out w3 hb3
   have HF := Lib.hid hf
   have lr := loadCo_at hx rfl
   clear ldc hb3 hx hf
   go_wp2_with fail
   refine ret_cell_tmp rfl rfl rfl rfl lr ?_
   rw [H.out]; exact HF.out
 | true =>
   rw [hva] at HVA
   have hd := val_desc hva
   have HVL := Lib.hid hva
   clear hva
   go_enter Tryz.func13, Tryz.ntmps13
   go_upto_region 1 with fail
   rw [← HW.out]
   have HCH := Lib.hid (fun W' => cvalid_any kind id key rec vol W' h64 (by omega) (by omega) hv)
   cases hch : chgP kind id key rec vol with
   | false =>
     rw [hch] at HCH
     have H := Lib.hid (show doV z org fmt len blk ap l n kind id key rec vol = (1, 0, []) by rw [HR.out, if_pos (Or.inr (Or.inl hch))])
     clear hch
     go_wp2_with fail
     refine HVA.out.mono ?_
     rintro e w3 ⟨rfl, hb3⟩
     have HB3 := Lib.hid hb3
     have lch := loadCh_num (HE.out.below hb3).num
     clear ldc hb3
     go_wp2_with fail
     refine (HCH.out w3).mono ?_
     rintro e w4 ⟨rfl, hb4⟩
     obtain ⟨w9, stz, hx, hf⟩ := HNO.out w4 (HB3.out.trans (hb4.mono HB3.out.size))
     have HF := Lib.hid hf
     have lr := loadCo_at hx rfl
     clear hb4 hx hf lch
     go_wp2_with fail
     refine ret_cell_tmp rfl rfl rfl rfl lr ?_
     rw [H.out]; exact HF.out
   | true =>
     rw [hch] at HCH
     have HCT := Lib.hid hch
     clear hch
     go_wp2_with fail
     refine HVA.out.mono ?_
     rintro e w3 ⟨rfl, hb3⟩
     have HB3 := Lib.hid hb3
     have lch := loadCh_num (HE.out.below hb3).num
     clear ldc hb3
     go_wp2_with fail
     refine (HCH.out w3).mono ?_
     rintro e w4 ⟨rfl, hb4⟩
     have HB4 := Lib.hid (HB3.out.trans (hb4.mono HB3.out.size))
     have n0 := cell_at (i := 0) (v := .int .i64 n) (HE.out.below HB4.out).num rfl
     clear hb4 lch
     by_cases h1 : n < 1
     · have H := Lib.hid (show doV z org fmt len blk ap l n kind id key rec vol = (1, 0, []) by rw [HR.out, if_pos (Or.inr (Or.inr (Or.inl h1)))])
       obtain ⟨w9, stz, hx, hf⟩ := HNO.out w4 HB4.out
       have HF := Lib.hid hf
       have lr := loadCo_at hx rfl
       have d1 : decide (n < 1) = true := by simpa using h1
       clear hx hf h1
       go_wp2_with fail
       refine ret_cell_tmp rfl rfl rfl rfl lr ?_
       rw [H.out]; exact HF.out
     · have d1 : decide (n < 1) = false := by simpa using h1
       by_cases h2 : 1099511627776 < n
       · have H := Lib.hid (show doV z org fmt len blk ap l n kind id key rec vol = (1, 0, []) by rw [HR.out, if_pos (Or.inr (Or.inr (Or.inr h2)))])
         obtain ⟨w9, stz, hx, hf⟩ := HNO.out w4 HB4.out
         have HF := Lib.hid hf
         have lr := loadCo_at hx rfl
         have d2 : decide (1099511627776 < n) = true := by simpa using h2
         clear hx hf h1 h2
         go_wp2_with fail
         refine ret_cell_tmp rfl rfl rfl rfl lr ?_
         rw [H.out]; exact HF.out
       · have d2 : decide (1099511627776 < n) = false := by simpa using h2
         have H := Lib.hid (show doV z org fmt len blk ap l n kind id key rec vol = doL z org fmt len ap l n kind id key rec by
           rw [HR.out, if_neg (by rw [HVL.out, HCT.out]; rintro (h | h | h | h); cases h; cases h; exact h1 h; exact h2 h)])
         clear h1 h2 HNO HR
         have hD4 := HE.out.below HB4.out
         have HD4 := Lib.hid hD4
         have k22 := cell_at (i := 22) (v := .slice a l.length cap) hD4.con rfl
         have HCL := Lib.hid (clone_any w4 B a cap l (HS.out.below (hD4.bel.mono hB)) (Nat.le_trans hB hD4.bel.size) (by omega))
         clear hD4
         go_wp2_with fail
         refine HCL.out.mono ?_
         rintro e w5 ⟨v5, rfl, ho5, hb5⟩
         obtain ⟨a5, c5, rfl, hc5, hm5, _⟩ := prs_of_row ho5
         have HD5 := Lib.hid (HD4.out.below hb5)
         have k225 := cell_at (i := 22) (v := .slice a l.length cap) HD5.out.con rfl
         have fz5 : w5.frozen? ⟨w.heap.size, 22, none⟩ = false := by simp [World.frozen?, HD5.out.con]
         have hset : w5.setCell ⟨w.heap.size, 22, none⟩ (.slice a5 l.length c5) = w5.setRow w.heap.size (conC z org fmt len blk ap a5 l.length c5) := by
           rw [setCell_eq_setRow w5 w.heap.size 22 _ _ _ (.slice a5 l.length c5) HD5.out.con]; rfl
         have HX6 := Lib.hid (setRow_heap w5 _ _ (conC z org fmt len blk ap a5 l.length c5) _ _ HD5.out.con)
         have HN6 := Lib.hid ((heap_setRow_other' w5 (g := w.heap.size) (conC z org fmt len blk ap a5 l.length c5) (lt_of_block HD5.out.num) (by omega)).trans HD5.out.num)
         have HR6 := Lib.hid ((heap_setRow_other' w5 (g := w.heap.size) (conC z org fmt len blk ap a5 l.length c5) (lt_of_block HD5.out.res) (by omega)).trans HD5.out.res)
         have hlt4 : w.heap.size < w4.heap.size := by have := HD4.out.size; omega
         have HO6 := Lib.hid (own_setRow ho5 hlt4 (conC z org fmt len blk ap a5 l.length c5))
         have HB6 := Lib.hid (below_setRow HD5.out.bel (Nat.le_refl _) (conC z org fmt len blk ap a5 l.length c5))
         have HZ6 := Lib.hid (show w.heap.size + 3 ≤ (w5.setRow w.heap.size (conC z org fmt len blk ap a5 l.length c5)).heap.size by have := HD5.out.size; simpa using this)
         rw [hset.symm] at HX6 HN6 HR6 HO6 HB6 HZ6
         obtain ⟨w6, hw6⟩ : ∃ w6, w5.setCell ⟨w.heap.size, 22, none⟩ (.slice a5 l.length c5) = w6 := ⟨_, rfl⟩
         rw [hw6] at HX6 HN6 HR6 HO6 HB6 HZ6
         have ld6 := loadCo_at HX6.out rfl
         have ln6 := loadNum_at HN6.out rfl
         have HPW := Lib.hid (show Prs w6 w6.heap.size a5 l by
           obtain ⟨a6, c6, he6, _, _, hp6⟩ := prs_of_row HO6.out
           have : a5 = a6 := by injection he6
           rw [this]; exact hp6)
         have HCO6 := Lib.hid (HC0.out.below HB6.out HC0.out.pos)
         have HIN := Lib.hid (inner_any (z := z) w6 w6.heap.size a5 c5 l org fmt len blk ap n kind id key rec vol HPW.out (Nat.le_refl _) hc5 hm5 hl hd HCO6.out hk hr (fun p hp => (HKL.out p hp).2) h64)
         clear hset ho5 hb5 k22 n0 d1 d2 HCL
         obtain ⟨r, hrr⟩ : ∃ r, r = doL z org fmt len ap l n kind id key rec := ⟨_, rfl⟩
         rw [← hrr] at HIN H
         clear hrr
         go_wp2_with fail
         refine HIN.out.mono ?_
         rintro e w7 ⟨⟨cs, rfl, h0, h1⟩, hb7⟩
         have hcs : cs.size = 23 ∧ cs.all (·.oneCell') = true := by
           by_cases hr0 : r.1 = 0
           · obtain ⟨a7, c7, rfl, _⟩ := h0 hr0
             exact ⟨rfl, one_con⟩
           · rw [h1 hr0]; exact ⟨rfl, by simp [Value.oneCell']⟩
         have hR7 := heap_below hb7 (lt_of_block HR6.out) HR6.out
         have st7 := storeCo_at hR7 hcs.1 rfl hcs.2
         have hX8 := setRow_heap w7 _ _ cs _ _ hR7
         have HF := Lib.hid (show DoRet z org fmt len blk none w r (.returned (.tuple #[.agg cs, .int .i64 r.1])) (w7.setRow (w.heap.size + 2) cs) by
           have hb8 := HB6.out.trans (hb7.mono HB6.out.size)
           refine ⟨⟨cs, rfl, fun hr0 => ?_, h1⟩, below_setRow hb8 (by omega) cs⟩
           obtain ⟨a7, c7, he, hc7, hm7, hp7, hav⟩ := h0 hr0
           have hav2 : ∀ p, a7 = some p → w.heap.size + 3 ≤ p.block := by
             intro p hp
             rcases hav p hp with h | h
             · have h4 := row_own HO6.out (k := p.block) (by rw [← h, hp]; rfl)
               have := HD4.out.size
               omega
             · have := HZ6.out; omega
           exact ⟨a7, c7, he, hc7, hm7, by
             have := prs_setRow (g := w.heap.size + 2) hp7 (fun p hp => by have := hav2 p hp; omega) cs
             simpa using this, fun p hp => Or.inr (by have := hav2 p hp; omega)⟩)
         have sz8 := hcs.1
         clear h0 h1 hb7 hcs hR7 ld6 ln6 HIN
         generalize w7.setRow (w.heap.size + 2) cs = w9 at st7 hX8 HF
         have lr := loadCo_at hX8 sz8
         go_wp2_with fail
         refine ret_cell_tmp rfl rfl rfl rfl lr ?_
         rw [H.out]; exact HF.out
end

end Go.Proofs.YtckpepfkfjdnhaaGreatDoor

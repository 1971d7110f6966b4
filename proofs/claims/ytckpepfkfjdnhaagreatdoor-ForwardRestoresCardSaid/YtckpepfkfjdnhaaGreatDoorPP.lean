/-
  Walks: the validity of an archive, by the reference. Conditions: pairs in memory, not too many.
  Walks: whether a description is valid and whether a pair may be in a data set, by the program. Condition: the laid table of segments' codes.
-/
import Derived.Test.YtckpepfkfjdnhaaGreatDoorPJ11
import Derived.Test.YtckpepfkfjdnhaaGreatDoorPI
import Derived.Test.YtckpepfkfjdnhaaGreatDoorPG
import Derived.Test.YtckpepfkfjdnhaaGreatDoorPL
import Derived.Deep.RegionHeld3
namespace Go.Proofs.YtckpepfkfjdnhaaGreatDoor

section
open Go.RowKit Go.Sort
variable {z : Rest}

theorem infoI49 : (Tryz.prog.info? 3).map (fun i => (i.zero, i.size, i.bytes)) = some (some (.int .i64 0), 1, 8) := by kernel_rfl
abbrev intsV (l : List Int) : List Value := l.map (Value.int .i64)
/-- The cells of an own row that is not empty. -/
theorem own_cells {w : World} {base : Nat} {e : TypeId} {v : Value} {n : Nat} {xs : List Value} (h : w.ownsRow base e 1 v n xs) (hn : 0 < n) : ∃ g cap, v = .slice (some ⟨g, 0, none⟩) n cap ∧ base ≤ g ∧ g < w.heap.size ∧ n ≤ cap ∧ cap ≤ 9223372036854775807 ∧ ∀ (i : Nat) (x : Value), xs[i]? = some x → w.cell? ⟨g, i, none⟩ = some x := by
 rcases h.2 with ⟨rfl, h0⟩ | ⟨g, cap, cur, rfl, hbase, hblk, q1, q2, q3, q4⟩
 · omega
 · refine ⟨g, cap, rfl, hbase, lt_of_block hblk, q1, by unfold maxLen at q2; exact q2, fun i x hx => ?_⟩
   rw [← q4, Nat.mul_one] at hx
   rw [List.getElem?_take] at hx
   split at hx
   · rw [cell_of_row w g i cur e (0, 0) hblk]; simpa using hx
   · cases hx

theorem lit_n {W : World} {base k n : Nat} (e : TypeId) (cs : Array Value) (xs : List Value) (hk : k = W.heap.size) (hb : base ≤ W.heap.size) (hm : n ≤ maxLen) (hs : cs.size = n) (hx : cs.toList = xs) : (W.alloc (.cells cs e)).ownsRow base e 1 (.slice (some ⟨k, 0, none⟩) n n) n xs := by
 subst hk hx; exact World.ownsRow_lit (base := base) (e := e) (size := 1) W cs n hb hm (by rw [hs, Nat.mul_one])
section
attribute [local go_sem ↓] loadDs_down
set_option maxRecDepth 100000 in
set_option maxHeartbeats 4000000 in
theorem numbers_any (org fmt len blk : Int) (w : World) : Calls Tryz.prog 85 #[.agg (dsv z org fmt len blk)] w fun e w' => ∃ v, e = .returned v ∧ w'.ownsRow w.heap.size 3 1 v 17 (intsV (numsL z org fmt len blk)) ∧ Below w.heap.size w w' := by
 go_enter Tryz.func85, Tryz.ntmps85
 go_wp2_with fail
 go_ret
 refine ⟨_, rfl, ?_, ?_⟩
 · exact lit_n 3 _ _ (by simp) (by simp) (by simp [maxLen]) rfl rfl
 · exact (box_below w _ _).alloc (by simp) _

set_option maxRecDepth 100000 in
set_option maxHeartbeats 4000000 in
theorem r14valid_any (w : World) (B : Nat) (a : Option Addr) (cap : Nat) (l : List Pr) (org fmt len blk ap : Int) (h : Prs w B a l) (hB : B ≤ w.heap.size) (hl : l.length ≤ 5000) (hvo : z.vol.length ≤ 9223372036854775807) (how : z.own.length ≤ 9223372036854775807) :
   Calls Tryz.prog 44 #[.agg (conC z org fmt len blk ap a l.length cap)] w fun e w' => e = .returned (.bool (archP z org fmt len blk ap l)) ∧ Below w.heap.size w w' := by
 obtain ⟨i0, hi0, hz0, hz1, hz2⟩ := info_parts infoI49
 have hA := heap_alloc_new w (.cells (conC z org fmt len blk ap a l.length cap) 82)
 have HB0 := Lib.hid (box_below w (conC z org fmt len blk ap a l.length cap) 82)
 have HS := Lib.hid h
 obtain ⟨w0, hw0⟩ : ∃ w0, w0 = w.alloc (.cells (conC z org fmt len blk ap a l.length cap) 82) := ⟨_, rfl⟩
 rw [← hw0] at hA HB0
 have HA := Lib.hid hA
 have HAa := Lib.hid ((halloc w0 (.cells #[.int .i64 ap] 3) (lt_of_block hA)).trans hA)
 have ld : (loadDs ⟨w.heap.size, 0, none⟩).run Tryz.prog w0.drew = .ok (.agg (dsv z org fmt len blk)) w0.drew := loadDs_con (w := w0.drew) hA
 have ca : w0.drew.cell? ⟨w.heap.size, 21, none⟩ = some (.int .i64 ap) := cell_at (w := w0.drew) (i := 21) hA rfl
 have lda : (loadDs ⟨w.heap.size, 0, none⟩).run Tryz.prog (w0.alloc (.cells #[.int .i64 ap] 3)).drew = .ok (.agg (dsv z org fmt len blk)) (w0.alloc (.cells #[.int .i64 ap] 3)).drew := loadDs_con (w := (w0.alloc (.cells #[.int .i64 ap] 3)).drew) HAa.out
 have caa : (w0.alloc (.cells #[.int .i64 ap] 3)).drew.cell? ⟨w.heap.size, 21, none⟩ = some (.int .i64 ap) := cell_at (w := (w0.alloc (.cells #[.int .i64 ap] 3)).drew) (i := 21) HAa.out rfl
 have HW0 := Lib.hid hw0
 clear hA hw0 h
 go_enter Tryz.func44, Tryz.ntmps44
 go_wp2_with fail
 rw [← HW0.out]
 go_region_held3 (fun w' => (loadDs ⟨w.heap.size, 0, none⟩).run Tryz.prog w' = .ok (.agg (dsv z org fmt len blk)) w' ∧ w'.cell? ⟨w.heap.size, 21, none⟩ = some (.int .i64 ap)) (first | (with_reducible exact ⟨ld4, ca4⟩) | (with_reducible exact ⟨ld2a, ca2a⟩) | (with_reducible exact ⟨ld2, ca2⟩) | (with_reducible exact ⟨lda, caa⟩) | exact ⟨ld, ca⟩ | fail)
   ((first
     | (go_at_call 85
        (with_reducible refine (numbers_any (z := z) org fmt len blk _).mono ?_)
        rintro e w2 ⟨v2, rfl, ho2, hb2⟩
        have HW2 := Lib.hid (show Below w0.heap.size w0 w2 by first | exact below_drew1.trans hb2 | exact bel_ad.trans (hb2.mono (by simp)))
        have HO2 := Lib.hid (show w2.ownsRow w0.heap.size 3 1 v2 17 (intsV (numsL z org fmt len blk)) by first | exact ho2 | exact own_mono ho2 (by simp))
        first | have HF2 := Lib.hid (heap_below hb2 (show w0.heap.size < (w0.alloc (.cells #[.int .i64 ap] 3)).drew.heap.size by simp) (heap_alloc_new w0 (.cells #[.int .i64 ap] 3))) | skip
        have HA2 := Lib.hid (heap_below HW2.out (lt_of_block HA.out) HA.out)
        have HA2a := Lib.hid ((halloc w2 (.cells #[.int .i64 ap] 3) (lt_of_block HA2.out)).trans HA2.out)
        have ld2 := loadDs_con HA2.out
        have ca2 := cell_at (i := 21) (v := .int .i64 ap) HA2.out rfl
        have ld2a := loadDs_con HA2a.out
        have ca2a := cell_at (i := 21) (v := .int .i64 ap) HA2a.out rfl
        clear ho2)
     | (refine step_append_row w0.heap.size 3 i0 (.int .i64 0) 1 8 hi0 hz0 hz1 hz2 rfl (by decide) (by decide) rfl (.tmp 8) (.tmp 11) 69 rfl Tryz.underlying69 _ rfl _ _ (HO2.out.alloc _) (some ⟨w2.heap.size, 0, none⟩) 1 1 rfl [.int .i64 ap] rfl (Or.inl ⟨_, rfl, news_at (cs := #[.int .i64 ap]) (heap_alloc_new w2 _)⟩) (by simp [Value.oneCell']) (by omega) (by have := HW2.out.size; simp; omega) ?_
        intro v4 w4 ho4 hg4
        have hw2a := HW2.out.alloc HW2.out.size (.cells #[.int .i64 ap] 3)
        have HW4 := Lib.hid (hw2a.grown hg4 hw2a.size (fun k hk => row_own HO2.out hk))
        have HO4 := Lib.hid ho4
        have HA4 := Lib.hid (heap_below HW4.out (lt_of_block HA.out) HA.out)
        have ld4 := loadDs_con HA4.out
        have ca4 := cell_at (i := 21) (v := .int .i64 ap) HA4.out rfl
        clear ho4 hg4 hw2a)
     | (refine step_append_row w0.heap.size 3 i0 (.int .i64 0) 1 8 hi0 hz0 hz1 hz2 rfl (by decide) (by decide) rfl (.tmp 8) (.tmp 11) 69 rfl Tryz.underlying69 _ rfl _ _ HO2.out (some ⟨w0.heap.size, 0, none⟩) 1 1 rfl [.int .i64 ap] rfl (Or.inl ⟨_, rfl, news_at (cs := #[.int .i64 ap]) HF2.out⟩) (by simp [Value.oneCell']) (by omega) HW2.out.size ?_
        intro v4 w4 ho4 hg4
        have HW4 := Lib.hid (HW2.out.grown hg4 HW2.out.size (fun k hk => row_own HO2.out hk))
        have HO4 := Lib.hid ho4
        have HA4 := Lib.hid (heap_below HW4.out (lt_of_block HA.out) HA.out)
        have ld4 := loadDs_con HA4.out
        have ca4 := cell_at (i := 21) (v := .int .i64 ap) HA4.out rfl
        clear ho4 hg4)
     | fail))
 all_goals
   clear ld4 ca4 ld2 ca2 ld2a ca2a lda caa ld ca hb2
   have HO5 := Lib.hid (show w4.ownsRow w0.heap.size 3 1 v4 18 (intsV (numsL z org fmt len blk ++ [ap])) from HO4.out)
   obtain ⟨g, c4, rfl, _, hg2, _, _, hcel⟩ := own_cells HO5.out (by omega)
   have HCEL := Lib.hid (fun (i : Nat) (hi : i < (numsL z org fmt len blk ++ [ap]).length) => show w4.cell? ⟨g, i, none⟩ = some (.int .i64 ((numsL z org fmt len blk ++ [ap])[i]'hi)) from hcel i _ (by rw [List.getElem?_map, List.getElem?_eq_getElem hi]; rfl))
   have HNL := Lib.hid (show (numsL z org fmt len blk ++ [ap]).length = 18 from rfl)
   have HR := Lib.hid (show archP z org fmt len blk ap l = ((numsL z org fmt len blk ++ [ap]).all numV && (decide (z.own.length ≤ 31) && decide (z.vol.length ≤ 31) && decide (l.length ≤ 1024)) && l.all prOk) from rfl)
   have HBF := Lib.hid (HB0.out.trans (HW4.out.mono HB0.out.size))
   clear hcel HO5 HO4
   generalize numsL z org fmt len blk ++ [ap] = NL at HCEL HNL HR
   go_wp2_with fail
   go_loop [4] (fun k => ∃ j : Nat, j ≤ 18 ∧ k = .int .i64 j ∧ ∀ x ∈ NL.take j, numV x = true) (fun k => 18 - (intOf k).toNat)
   case atStart => exact ⟨0, by omega, rfl, by simp⟩
   case round =>
     obtain ⟨j, hj, rfl, hall⟩ := hrel
     by_cases hlt : j < 18
     · have hjn : j < NL.length := by rw [HNL.out]; exact hlt
       have hcj := HCEL.out j hjn
       have HN := Lib.hid (fun (hp : numV NL[j] = true) => show ∀ x ∈ NL.take (j + 1), numV x = true by
         intro x hx
         rw [List.take_succ_eq_append_getElem hjn] at hx
         rcases List.mem_append.1 hx with hx | hx
         · exact hall x hx
         · obtain rfl := List.mem_singleton.1 hx; exact hp)
       have HY := Lib.hid (fun (hp : numV NL[j] = false) => show NL.all numV = false by
         rw [List.all_eq_false]; exact ⟨NL[j], List.getElem_mem hjn, by rw [hp]; simp⟩)
       clear hall
       generalize NL[j] = x at hcj HN HY
       by_cases h1 : x < 0
       · have H := Lib.hid (show archP z org fmt len blk ap l = false by rw [HR.out, HY.out (by simp [numV]; omega)]; rfl)
         go_wp2_with fail
         go_ret
         exact ⟨by rw [H.out]; rfl, HBF.out⟩
       · by_cases h2 : 1099511627776 < x
         · have H := Lib.hid (show archP z org fmt len blk ap l = false by rw [HR.out, HY.out (by simp [numV]; omega)]; rfl)
           go_wp2_with fail
           go_ret
           exact ⟨by rw [H.out]; rfl, HBF.out⟩
         · have H := Lib.hid (HN.out (by simp [numV]; omega))
           go_wp2_with fail
           go_round
           case rel => exact ⟨j + 1, by omega, by go_num, H.out⟩
           case measure => simp [intOf]; omega
     · obtain rfl : j = 18 := by omega
       have HALL := Lib.hid (show NL.all numV = true by
         rw [List.take_of_length_le (by rw [HNL.out]; omega)] at hall
         rw [List.all_eq_true]; exact hall)
       clear hall
       have c16 := cell_at (i := 16) (v := .string ⟨z.vol.toArray⟩) HA4.out rfl
       have c17 := cell_at (i := 17) (v := .string ⟨z.own.toArray⟩) HA4.out rfl
       have c22 := cell_at (i := 22) (v := .slice a l.length cap) HA4.out rfl
       go_wp2_with fail
       go_loop [5] (fun k => ∃ j : Nat, j ≤ l.length ∧ k = .int .i64 j ∧ ∀ x ∈ l.take j, prOk x = true) (fun k => l.length - (intOf k).toNat)
       case atStart => exact ⟨0, by omega, rfl, by simp⟩
       case round =>
         obtain ⟨j, hj, rfl, hall⟩ := hrel
         by_cases hlt : j < l.length
         · obtain ⟨b, off, rfl, hbb, hc1, hc2⟩ := HS.out.get hlt
           have hr1 : w4.cell? ⟨b, off + j * 2, none⟩ = some (.string ⟨l[j].1.toArray⟩) := ((HBF.out.mono hB).cell (p := ⟨b, off + j * 2, none⟩) hbb).trans hc1
           have hr2 : w4.cell? ⟨b, off + j * 2 + 1, none⟩ = some (.string ⟨l[j].2.toArray⟩) := ((HBF.out.mono hB).cell (p := ⟨b, off + j * 2 + 1, none⟩) hbb).trans hc2
           have HN := Lib.hid (fun (hp : prOk l[j] = true) => show ∀ x ∈ l.take (j + 1), prOk x = true by
             intro x hx
             rw [List.take_succ_eq_append_getElem hlt] at hx
             rcases List.mem_append.1 hx with hx | hx
             · exact hall x hx
             · obtain rfl := List.mem_singleton.1 hx; exact hp)
           have HY := Lib.hid (fun (hp : prOk l[j] = false) => show l.all prOk = false by
             rw [List.all_eq_false]; exact ⟨l[j], List.getElem_mem hlt, by rw [hp]; simp⟩)
           clear hall hc1 hc2
           generalize l[j] = x at hr1 hr2 HN HY
           obtain ⟨k, r⟩ := x
           simp only at hr1 hr2
           by_cases h1 : 32 < k.length
           · have H := Lib.hid (show archP z org fmt len blk ap l = false by rw [HR.out, HY.out (by simp [prOk]; omega), Bool.and_false])
             have g1 : decide ((32 : Int) < (k.length : Int)) = true := by simp; omega
             go_wp2_with fail
             go_ret
             exact ⟨by rw [H.out]; rfl, HBF.out⟩
           · have g1 : decide ((32 : Int) < (k.length : Int)) = false := by simp; omega
             by_cases h2 : 1000 < r.length
             · have H := Lib.hid (show archP z org fmt len blk ap l = false by rw [HR.out, HY.out (by simp [prOk]; omega), Bool.and_false])
               have g2 : decide ((1000 : Int) < (r.length : Int)) = true := by simp; omega
               go_wp2_with fail
               go_ret
               exact ⟨by rw [H.out]; rfl, HBF.out⟩
             · have g2 : decide ((1000 : Int) < (r.length : Int)) = false := by simp; omega
               have H := Lib.hid (HN.out (by simp [prOk]; omega))
               go_wp2_with fail
               go_round
               case rel => exact ⟨j + 1, by omega, by go_num, H.out⟩
               case measure => simp [intOf]; omega
         · obtain rfl : j = l.length := by omega
           have HALL2 := Lib.hid (show l.all prOk = true by
             rw [List.take_of_length_le (Nat.le_refl _)] at hall
             rw [List.all_eq_true]; exact hall)
           have HR2 := Lib.hid (show archP z org fmt len blk ap l = (decide (z.own.length ≤ 31) && decide (z.vol.length ≤ 31) && decide (l.length ≤ 1024)) by rw [HR.out, HALL.out, HALL2.out, Bool.and_true, Bool.true_and])
           clear hall
           by_cases h1 : z.own.length ≤ 31
           · have g1 : decide ((z.own.length : Int) ≤ 31) = true := by simp; omega
             by_cases h2 : z.vol.length ≤ 31
             · have g2 : decide ((z.vol.length : Int) ≤ 31) = true := by simp; omega
               by_cases h3 : l.length ≤ 1024
               · have g3 : decide ((l.length : Int) ≤ 1024) = true := by simp; omega
                 have HR3 := Lib.hid (show archP z org fmt len blk ap l = true by rw [HR2.out]; simp [h1, h2, h3])
                 go_wp2_with fail
                 go_ret
                 exact ⟨by rw [HR3.out]; rfl, HBF.out⟩
               · have g3 : decide ((l.length : Int) ≤ 1024) = false := by simp; omega
                 have HR3 := Lib.hid (show archP z org fmt len blk ap l = false by rw [HR2.out]; simp [h3])
                 go_wp2_with fail
                 go_ret
                 exact ⟨by rw [HR3.out]; rfl, HBF.out⟩
             · have g2 : decide ((z.vol.length : Int) ≤ 31) = false := by simp; omega
               have HR3 := Lib.hid (show archP z org fmt len blk ap l = false by rw [HR2.out]; simp [h2])
               go_wp2_with fail
               go_ret
               exact ⟨by rw [HR3.out]; rfl, HBF.out⟩
           · have g1 : decide ((z.own.length : Int) ≤ 31) = false := by simp; omega
             have HR3 := Lib.hid (show archP z org fmt len blk ap l = false by rw [HR2.out]; simp [h1])
             go_wp2_with fail
             go_ret
             exact ⟨by rw [HR3.out]; rfl, HBF.out⟩
end
end

section
open Go.RowKit Go.Sort
variable {z : Rest}

/-- Whether a description is valid. -/
def descP (z : Rest) (org fmt len blk : Int) : Bool := (decide (1 ≤ z.id) && decide (z.id ≤ 1099511627776)) && (if org = 0 then dsV org fmt len blk else kvalP z org fmt len blk)
section
attribute [local go_sem ↓] loadDs_down
set_option maxRecDepth 100000 in
set_option maxHeartbeats 2000000 in
theorem described_any (org fmt len blk : Int) (w : World) : Calls Tryz.prog 39 #[.agg (dsv z org fmt len blk)] w fun e w' => e = .returned (.bool (descP z org fmt len blk)) ∧ Below w.heap.size w w' := by
 have HB := Lib.hid (box_below w (dsv z org fmt len blk) 23)
 have HD := Lib.hid (heap_alloc_new w (.cells (dsv z org fmt len blk) 23))
 obtain ⟨w0, hw0⟩ : ∃ w0, w0 = w.alloc (.cells (dsv z org fmt len blk) 23) := ⟨_, rfl⟩
 rw [← hw0] at HB HD
 have c0 := cell_at (i := 0) (v := .int .i64 z.id) HD.out rfl
 have c1 := cell_at (i := 1) (v := .int .i64 org) HD.out rfl
 have ld := loadDs_at HD.out rfl
 have HV := Lib.hid (fun W => valid_any (z := z) org fmt len blk W)
 have HK := Lib.hid (fun W => kvalid_any (z := z) org fmt len blk W)
 have HR := Lib.hid (show descP z org fmt len blk = ((decide (1 ≤ z.id) && decide (z.id ≤ 1099511627776)) && (if org = 0 then dsV org fmt len blk else kvalP z org fmt len blk)) from rfl)
 generalize dsV org fmt len blk = q1 at HV HR
 generalize kvalP z org fmt len blk = q2 at HK HR
 rw [hw0] at c0 c1 ld
 have HW0 := Lib.hid hw0
 clear hw0
 by_cases h1 : z.id < 1
 · have H := Lib.hid (show descP z org fmt len blk = false by rw [HR.out]; simp; omega)
   go_enter Tryz.func39, Tryz.ntmps39
   go_wp2_with fail
   go_ret
   exact ⟨by rw [H.out]; rfl, by rw [← HW0.out]; exact HB.out⟩
 · by_cases h2 : 1099511627776 < z.id
   · have H := Lib.hid (show descP z org fmt len blk = false by rw [HR.out]; simp; omega)
     go_enter Tryz.func39, Tryz.ntmps39
     go_wp2_with fail
     go_ret
     exact ⟨by rw [H.out]; rfl, by rw [← HW0.out]; exact HB.out⟩
   · by_cases h3 : org = 0
     · have H := Lib.hid (show descP z org fmt len blk = q1 by
         have e1 : decide (1 ≤ z.id) = true := by simp; omega
         have e2 : decide (z.id ≤ 1099511627776) = true := by simp; omega
         rw [HR.out, if_pos h3, e1, e2]; rfl)
       have e1 : (org == 0) = true := by simp [h3]
       clear h3
       go_enter Tryz.func39, Tryz.ntmps39
       go_wp2_with fail
       rw [← HW0.out]
       refine (HV.out w0).mono ?_
       rintro e w1 ⟨rfl, hb1⟩
       go_wp2_with fail
       go_ret
       exact ⟨by rw [H.out]; rfl, HB.out.trans (hb1.mono HB.out.size)⟩
     · have H := Lib.hid (show descP z org fmt len blk = q2 by
         have e1 : decide (1 ≤ z.id) = true := by simp; omega
         have e2 : decide (z.id ≤ 1099511627776) = true := by simp; omega
         rw [HR.out, if_neg h3, e1, e2]; rfl)
       have e1 : (org == 0) = false := by simp [h3]
       clear h3
       go_enter Tryz.func39, Tryz.ntmps39
       go_wp2_with fail
       rw [← HW0.out]
       refine (HK.out w0).mono ?_
       rintro e w1 ⟨rfl, hb1⟩
       go_wp2_with fail
       go_ret
       exact ⟨by rw [H.out]; rfl, HB.out.trans (hb1.mono HB.out.size)⟩
end
end

end Go.Proofs.YtckpepfkfjdnhaaGreatDoor

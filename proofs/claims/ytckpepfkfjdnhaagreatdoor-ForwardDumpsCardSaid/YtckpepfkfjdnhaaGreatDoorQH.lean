/-
  Walks: the sizes of intervals, by the program. Conditions: not too many records, nor too long ones.
  Walks: whether records fit in an interval, by the program and by the reference. Conditions: not too many records, nor too long ones.
-/
import Derived.Test.YtckpepfkfjdnhaaGreatDoorQJ2
import Derived.Test.YtckpepfkfjdnhaaGreatDoorQB
import Derived.Test.YtckpepfkfjdnhaaGreatDoorQD
import Derived.Deep.QuietTactic
import Derived.BigQuiet
import Derived.Great.Walk
import Derived.Lib.QuietBelow
namespace Go.Proofs.YtckpepfkfjdnhaaGreatDoor

section
open Go.RowKit Go.Sort

theorem ret_isSize {n : Int} {b : Bool} (h : isSizeP n = b) : Ending.returned (.bool b) = .returned (.bool (isSizeP n)) := by rw [h]
set_option maxRecDepth 100000 in
set_option maxHeartbeats 1000000 in
theorem isSize_any (n : Int) (w : World) : Calls Tryz.prog 134 #[.int .i64 n] w fun e w' => e = .returned (.bool (isSizeP n)) ∧ w = w' := by
 by_cases h1 : n = 128
 · subst h1
   go_enter Tryz.func134, Tryz.ntmps134
   go_wp2_with fail
   go_ret
   exact ⟨rfl, rfl⟩
 · by_cases h2 : n = 256
   · subst h2
     go_enter Tryz.func134, Tryz.ntmps134
     go_wp2_with fail
     go_ret
     exact ⟨rfl, rfl⟩
   · by_cases h3 : n = 512
     · subst h3
       go_enter Tryz.func134, Tryz.ntmps134
       go_wp2_with fail
       go_ret
       exact ⟨rfl, rfl⟩
     · have H := Lib.hid (show isSizeP n = false by simp [isSizeP, h1, h2, h3])
       have e1 : (n == 128) = false := by simpa using h1
       have e2 : (n == 256) = false := by simpa using h2
       have e3 : (n == 512) = false := by simpa using h3
       clear h1 h2 h3
       go_enter Tryz.func134, Tryz.ntmps134
       go_wp2_with fail
       go_ret
       exact ⟨ret_isSize H.out, rfl⟩
theorem allow_take (l : List By) (j : Nat) (h : j < l.length) : allowP (l.take (j + 1)) = (allowP (l.take j) && (decide (1 ≤ l[j].length) && decide (l[j].length ≤ 200))) := by
 unfold allowP; rw [List.take_succ_eq_append_getElem h, List.all_append]; simp
theorem allow_no {l : List By} {j : Nat} (h : j < l.length) (hb : (decide (1 ≤ l[j].length) && decide (l[j].length ≤ 200)) = false) : allowP l = false := by
 unfold allowP; rw [List.all_eq_false]; exact ⟨l[j], List.getElem_mem h, by rw [hb]; simp⟩
set_option maxRecDepth 100000 in
set_option maxHeartbeats 2000000 in
theorem iallowed_any (w : World) (B : Nat) (a : Option Addr) (cap : Nat) (l : List By) (h : Strs w B a l) (hl : l.length ≤ 1000000) :
   Calls Tryz.prog 135 #[.slice a l.length cap] w fun e w' => e = .returned (.bool (allowP l)) ∧ w = w' := by
 have HS := Lib.hid h
 clear h
 go_enter Tryz.func135, Tryz.ntmps135
 go_wp2_with fail
 go_loop [4, 7] (fun _ i => ∃ j : Nat, j ≤ l.length ∧ i = .int .i64 j ∧ allowP (l.take j) = true) (fun _ i => l.length - (intOf i).toNat)
 case atStart => exact ⟨0, by omega, rfl, rfl⟩
 case round =>
   obtain ⟨j, hj, rfl, ha⟩ := hrel
   by_cases hlt : j < l.length
   · obtain ⟨b, off, rfl, hbb, hc⟩ := HS.out.get hlt
     have HT := Lib.hid (allow_take l j hlt)
     have HN := Lib.hid (allow_no hlt)
     rw [ha] at HT
     clear ha
     generalize l[j] = r at hc HT HN
     by_cases h1 : r.length < 1
     · have H := Lib.hid (HN.out (by simp; omega))
       have g1 : decide ((r.length : Int) < 1) = true := by simp; omega
       clear h1
       go_wp2_with fail
       go_ret
       exact ⟨by rw [H.out]; rfl, rfl⟩
     · by_cases h2 : 200 < r.length
       · have H := Lib.hid (HN.out (by simp; omega))
         have g1 : decide ((r.length : Int) < 1) = false := by simp; omega
         have g2 : decide ((200 : Int) < (r.length : Int)) = true := by simp; omega
         clear h1
         go_wp2_with fail
         go_ret
         exact ⟨by rw [H.out]; rfl, rfl⟩
       · have H := Lib.hid (show allowP (l.take (j + 1)) = true by rw [HT.out]; simp; omega)
         have g1 : decide ((r.length : Int) < 1) = false := by simp; omega
         have g2 : decide ((200 : Int) < (r.length : Int)) = false := by simp; omega
         clear h1
         go_wp2_with fail
         go_round
         case rel => exact ⟨j + 1, by omega, by go_num, H.out⟩
         case measure => simp [intOf]; omega
   · have H := Lib.hid (show allowP l = true by rw [List.take_of_length_le (by omega)] at ha; exact ha)
     clear ha
     go_wp2_with fail
     go_ret
     exact ⟨by rw [H.out]; rfl, rfl⟩

set_option maxRecDepth 100000 in
set_option maxHeartbeats 1000000 in
theorem size1_any (w : World) (g n x s : Nat) (ni : Int) (hni : ni = (n : Int)) (hg : w.heap[g]? = some (.cells #[.int .i64 (s : Int)] 3 (0, 0))) (hn : n ≤ 1000000) (hx : x ≤ 1000000) (hs : s ≤ 1000000000000000) :
   Calls Tryz.prog 184 #[.int .i64 ni, .int .i64 x, .pointer (some ⟨g, 0, none⟩)] w fun e w' => e = .returned (.tuple #[]) ∧ w' = w.setCell ⟨g, 0, none⟩ (.int .i64 ((s + (n * x + 3 * min n 2) : Nat) : Int)) := by
 subst hni
 have c0 := cell_at (i := 0) (v := .int .i64 (s : Int)) hg rfl
 have f0 := free_at hg 0
 have hm : n * x ≤ 1000000 * 1000000 := Nat.mul_le_mul hn hx
 go_enter Tryz.func184, Tryz.ntmps184
 go_wp2_with fail
 refine Go.Great.bodyPost_end0 rfl rfl ⟨rfl, ?_⟩
 congr 2
 omega

theorem headN_take' (x : Nat) : ∀ (l : List Nat) (n : Nat), n ≤ headN x l → ∀ i (h : i < l.length), i < n → l[i] = x
 | y :: l, n, hn, i, hi, hin => by
   unfold headN at hn
   split at hn
   · rename_i e
     match i with
     | 0 => exact e
     | i + 1 => exact headN_take' x l (n - 1) (by omega) i (by simpa using hi) (by omega)
   · omega
theorem headN_stop (x : Nat) : ∀ (l : List Nat) (h : headN x l < l.length), l[headN x l] ≠ x
 | y :: l, h => by
   unfold headN at h ⊢
   by_cases e : y = x
   · simp only [if_pos e] at h ⊢
     simp only [List.getElem_cons_succ]
     exact headN_stop x l (by simpa using h)
   · simp only [if_neg e, List.getElem_cons_zero]
     exact e

/-- What the loop of runs holds. -/
structure RunSt (w : World) (B g T : Nat) (W : World) (A : Option Addr) (C : Nat) (rem : List By) (s : Nat) : Prop where
 onl : Only [g] w W
 str : Strs W B A rem
 cap : rem.length ≤ C
 cel : W.heap[g]? = some (.cells #[.int .i64 (s : Int)] 3 (0, 0))
 tot : s + sizeF rem.length (rem.map List.length) = T
theorem RunSt.step {w W : World} {B g T : Nat} {A : Option Addr} {C s : Nat} {r : By} {rem : List By} (h : RunSt w B g T W A C (r :: rem) s) :
   T = (s + ((headN r.length (rem.map List.length) + 1) * r.length + 3 * min (headN r.length (rem.map List.length) + 1) 2)) + sizeF (rem.drop (headN r.length (rem.map List.length))).length ((rem.drop (headN r.length (rem.map List.length))).map List.length) := by
 rw [← h.tot, List.length_cons, List.map_cons, sizeF, List.map_drop]
 have hle := headN_le r.length (rem.map List.length)
 rw [List.length_map] at hle
 rw [sizeF_fuel rem.length (rem.drop (headN r.length (rem.map List.length))).length _ (by rw [List.length_drop, List.length_map]; omega) (by rw [List.length_drop, List.length_drop, List.length_map]; omega)]
 omega

set_option maxRecDepth 100000 in
set_option maxHeartbeats 4000000 in
theorem runs_any (w : World) (B g : Nat) (a : Option Addr) (cap : Nat) (l : List By) (h : Strs w B a l) (hBg : B ≤ g) (hcap : l.length ≤ cap) (hc63 : cap ≤ 9223372036854775807) (hl : l.length ≤ 1000000) (hk : ∀ r ∈ l, r.length ≤ 1000000)
   (hg : w.heap[g]? = some (.cells #[.int .i64 (4 : Int)] 3 (0, 0))) (hT : sizeP (l.map List.length) ≤ 1000000000000) :
   Calls Tryz.prog 183 #[.slice a l.length cap, .func (.func 184) #[] #[.pointer (some ⟨g, 0, none⟩)]] w fun e w' => e = .returned (.tuple #[]) ∧ w'.heap[g]? = some (.cells #[.int .i64 ((sizeP (l.map List.length) : Nat) : Int)] 3 (0, 0)) ∧ Only [g] w w' := by
 have HS := Lib.hid (show RunSt w B g (sizeP (l.map List.length)) w a cap l 4 from ⟨Only.refl _ _, h, hcap, hg, by unfold sizeP; rw [List.length_map]⟩)
 generalize sizeP (l.map List.length) = T at HS hT ⊢
 clear h hg
 go_enter Tryz.func183, Tryz.ntmps183
 go_wp2_with fail
 go_loopw [0, 4] (fun rv _ wr => ∃ A C rem s, rv = .slice A rem.length C ∧ RunSt w B g T wr A C rem s ∧ rem.length ≤ 1000000 ∧ (∀ r ∈ rem, r.length ≤ 1000000) ∧ C ≤ 9223372036854775807) (fun rv _ _ => match rv with | .slice _ n _ => n | _ => 0)
 case atStart => exact ⟨_, _, _, _, rfl, HS.out, hl, hk, hc63⟩
 case round =>
   clear HS
   obtain ⟨A, C, rem, s, rfl, hS, hrl, hrk, hC63⟩ := hrel
   have hsT : s ≤ T := by have := hS.tot; omega
   cases rem with
   | nil =>
     have HT := Lib.hid (show s = T by have := hS.tot; simpa [sizeF] using this)
     have HC := Lib.hid hS.cel
     have HO := Lib.hid hS.onl
     clear hS
     simp only [List.length_nil]
     go_wp2_with fail
     refine Go.Great.bodyPost_end0 rfl rfl ⟨rfl, ?_, HO.out⟩
     rw [← HT.out]; exact HC.out
   | cons r rem =>
     have hstep := hS.step
     have HT := Lib.hid hstep
     have hlen : (r :: rem).length = rem.length + 1 := rfl
     have hrl2 : rem.length + 1 ≤ 1000000 := hrl
     rw [hlen]
     clear hrl
     have hNle := headN_le r.length (rem.map List.length)
     rw [List.length_map] at hNle
     have HTK := Lib.hid (headN_take' r.length (rem.map List.length))
     have HST := Lib.hid (headN_stop r.length (rem.map List.length))
     generalize hN : headN r.length (rem.map List.length) = N at HT hNle HTK HST hstep
     clear hN
     obtain ⟨b, off, rfl, hbb, hcc⟩ := hS.str.cells (by simp)
     have HSS := Lib.hid hS
     have HCC := Lib.hid hcc
     have HRK := Lib.hid hrk
     have hr0 : r.length ≤ 1000000 := hrk r (by simp)
     have hcap2 : rem.length + 1 ≤ C := hS.cap
     clear hS hcc hrk hstep hlen
     go_wp2_with fail
     obtain ⟨wo, rfl⟩ : ∃ wo, wo = wr := ⟨wr, rfl⟩
     go_loopw [4] (fun i wi => ∃ j d : Nat, j ≤ N ∧ i = .int .i64 ((j + 1 : Nat) : Int) ∧ wi = wo.drewN d) (fun i _ => N + 1 - (intOf i).toNat)
     case atStart => exact ⟨0, 0, by omega, rfl, rfl⟩
     case round =>
       obtain ⟨j, d, hj, rfl, rfl⟩ := hrel
       have h0 : wo.cell? ⟨b, off, none⟩ = some (.string ⟨r.toArray⟩) := by have := HCC.out 0 (by simp); simpa using this
       by_cases hjN : j < N
       · have hjr : j < rem.length := by omega
         have h1 : wo.cell? ⟨b, off + (j + 1), none⟩ = some (.string ⟨rem[j].toArray⟩) := by have := HCC.out (j + 1) (by simp; omega); simpa using this
         have hq : rem[j].length = r.length := by have := HTK.out N (Nat.le_refl _) j (by simpa using hjr) hjN; simpa using this
         have HQ := Lib.hid hq
         clear hq
         generalize rem[j] = q at h1 HQ
         have hb : ((q.length : Int) == (r.length : Int)) = true := by rw [HQ.out]; simp
         have q0 : (0 : Int) ≤ (j : Int) + 1 := by omega
         have q1 : ((j : Int) + 1).toNat = j + 1 := by omega
         have q2 : (j : Int) + 1 < (rem.length : Int) + 1 := by omega
         go_wp2_with fail
         go_quiet (fail)
         clear q0 q1 q2
         go_wp2_with fail
         go_roundw
         case rel => exact ⟨j + 1, d + nq, by omega, by go_num, rfl⟩
         case measure => simp [intOf]; omega
       · obtain rfl : j = N := by omega
         by_cases hNe : j = rem.length
         · have q0 : ¬ j < rem.length := by omega
           have q1 : ¬ (j : Int) + 1 < (rem.length : Int) + 1 := by omega
           have q2 : decide ((j : Int) + 1 < (rem.length : Int) + 1) = false := by simpa using q0
           have HNE := Lib.hid hNe
           clear hNe
           go_wp2_with fail
           go_quiet (fail)
           clear q0 q1 q2
           by_cases hC : C = j + 1
           · have q3 : (C : Int) = (j : Int) + 1 := by omega
             go_wp2_with fail
             refine (size1_any (wo.drewN (d + nq)) g (j + 1) r.length s _ (by simp) HSS.out.cel (by omega) hr0 (by omega)).mono ?_
             rintro e w2 ⟨rfl, hw2⟩
             have HW2 := Lib.hid hw2
             clear hw2
             have HO2 := Lib.hid (show Only [g] w w2 by rw [HW2.out]; exact (HSS.out.onl.drewN _).setCell (Or.inl (by simp)) _)
             have HC2 := Lib.hid (show w2.heap[g]? = some (.cells #[.int .i64 ((s + ((j + 1) * r.length + 3 * min (j + 1) 2) : Nat) : Int)] 3 (0, 0)) by rw [HW2.out]; exact heap_setCell_same _ _ _ _ _ _ HSS.out.cel)
             have HBE := Lib.hid (show Below B (wo.drewN (d + nq)) w2 by rw [HW2.out]; exact (Below.refl _ _).setCell hBg _)
             clear HW2
             have hstr : Strs w2 B (some ⟨b, off, none⟩) (rem.drop j) := by rw [List.drop_eq_nil_of_le (by omega)]; exact strs_nil _ _ _
             have HZ := Lib.hid (show RunSt w B g T w2 (some ⟨b, off, none⟩) 0 (rem.drop j) (s + ((j + 1) * r.length + 3 * min (j + 1) 2)) from ⟨HO2.out, hstr, by rw [List.length_drop]; omega, HC2.out, HT.out.symm⟩)
             clear hstr
             go_wp2_with fail
             go_roundw
             case rel => exact ⟨_, _, _, _, by first | (rw [List.length_drop]; done) | simp, HZ.out, by rw [List.length_drop]; omega, fun x hx => HRK.out x (List.mem_cons_of_mem _ (List.mem_of_mem_drop hx)), by omega⟩
             case measure => simp; omega
           · have q3 : ¬ (C : Int) = (j : Int) + 1 := by omega
             go_wp2_with fail
             refine (size1_any (wo.drewN (d + nq)) g (j + 1) r.length s _ (by simp) HSS.out.cel (by omega) hr0 (by omega)).mono ?_
             rintro e w2 ⟨rfl, hw2⟩
             have HW2 := Lib.hid hw2
             clear hw2
             have HO2 := Lib.hid (show Only [g] w w2 by rw [HW2.out]; exact (HSS.out.onl.drewN _).setCell (Or.inl (by simp)) _)
             have HC2 := Lib.hid (show w2.heap[g]? = some (.cells #[.int .i64 ((s + ((j + 1) * r.length + 3 * min (j + 1) 2) : Nat) : Int)] 3 (0, 0)) by rw [HW2.out]; exact heap_setCell_same _ _ _ _ _ _ HSS.out.cel)
             have HBE := Lib.hid (show Below B (wo.drewN (d + nq)) w2 by rw [HW2.out]; exact (Below.refl _ _).setCell hBg _)
             clear HW2
             have hstr : Strs w2 B (some ⟨b, off + (j + 1), none⟩) (rem.drop j) := ⟨fun _ => ⟨b, off + (j + 1), rfl, hbb, fun i hi => by
               rw [List.length_drop] at hi
               have e0 := HCC.out (j + 1 + i) (by simp; omega)
               have e1 := HBE.out.cell (p := ⟨b, off + (j + 1) + i, none⟩) hbb
               have e2 : wo.cell? ⟨b, off + (j + 1) + i, none⟩ = some (.string ⟨((r :: rem)[j + 1 + i]'(by simp; omega)).toArray⟩) := by rw [Nat.add_assoc]; exact e0
               rw [e1]
               refine e2.trans ?_
               congr 3
               simp [Nat.add_right_comm j 1 i]⟩⟩
             have HZ := Lib.hid (show RunSt w B g T w2 (some ⟨b, off + (j + 1), none⟩) (C - (j + 1)) (rem.drop j) (s + ((j + 1) * r.length + 3 * min (j + 1) 2)) from ⟨HO2.out, hstr, by rw [List.length_drop]; omega, HC2.out, HT.out.symm⟩)
             clear hstr
             go_wp2_with fail
             go_roundw
             case rel => exact ⟨_, _, _, _, by first | (rw [List.length_drop]; done) | simp, HZ.out, by rw [List.length_drop]; omega, fun x hx => HRK.out x (List.mem_cons_of_mem _ (List.mem_of_mem_drop hx)), by omega⟩
             case measure => simp; omega
         · have hjr : j < rem.length := by omega
           have h1 : wo.cell? ⟨b, off + (j + 1), none⟩ = some (.string ⟨rem[j].toArray⟩) := by have := HCC.out (j + 1) (by simp; omega); simpa using this
           have hq : rem[j].length ≠ r.length := by have := HST.out (by simpa using hjr); simpa using this
           generalize rem[j] = q at h1 hq
           have hb : ((q.length : Int) == (r.length : Int)) = false := by simp; omega
           have q0 : (0 : Int) ≤ (j : Int) + 1 := by omega
           have q1 : ((j : Int) + 1).toNat = j + 1 := by omega
           have q2 : (j : Int) + 1 < (rem.length : Int) + 1 := by omega
           clear hq
           go_wp2_with fail
           go_quiet (fail)
           clear q0 q1 q2 hb h1
           go_wp2_with fail
           refine (size1_any (wo.drewN (d + nq)) g (j + 1) r.length s _ (by simp) HSS.out.cel (by omega) hr0 (by omega)).mono ?_
           rintro e w2 ⟨rfl, hw2⟩
           have HW2 := Lib.hid hw2
           clear hw2
           have HO2 := Lib.hid (show Only [g] w w2 by rw [HW2.out]; exact (HSS.out.onl.drewN _).setCell (Or.inl (by simp)) _)
           have HC2 := Lib.hid (show w2.heap[g]? = some (.cells #[.int .i64 ((s + ((j + 1) * r.length + 3 * min (j + 1) 2) : Nat) : Int)] 3 (0, 0)) by rw [HW2.out]; exact heap_setCell_same _ _ _ _ _ _ HSS.out.cel)
           have HBE := Lib.hid (show Below B (wo.drewN (d + nq)) w2 by rw [HW2.out]; exact (Below.refl _ _).setCell hBg _)
           clear HW2
           have hstr : Strs w2 B (some ⟨b, off + (j + 1), none⟩) (rem.drop j) := ⟨fun _ => ⟨b, off + (j + 1), rfl, hbb, fun i hi => by
             rw [List.length_drop] at hi
             have e0 := HCC.out (j + 1 + i) (by simp; omega)
             have e1 := HBE.out.cell (p := ⟨b, off + (j + 1) + i, none⟩) hbb
             have e2 : wo.cell? ⟨b, off + (j + 1) + i, none⟩ = some (.string ⟨((r :: rem)[j + 1 + i]'(by simp; omega)).toArray⟩) := by rw [Nat.add_assoc]; exact e0
             rw [e1]
             refine e2.trans ?_
             congr 3
             simp [Nat.add_right_comm j 1 i]⟩⟩
           have HZ := Lib.hid (show RunSt w B g T w2 (some ⟨b, off + (j + 1), none⟩) (C - (j + 1)) (rem.drop j) (s + ((j + 1) * r.length + 3 * min (j + 1) 2)) from ⟨HO2.out, hstr, by rw [List.length_drop]; omega, HC2.out, HT.out.symm⟩)
           clear hstr
           go_wp2_with fail
           go_roundw
           case rel => exact ⟨_, _, _, _, by first | (rw [List.length_drop]; done) | simp, HZ.out, by rw [List.length_drop]; omega, fun x hx => HRK.out x (List.mem_cons_of_mem _ (List.mem_of_mem_drop hx)), by omega⟩
           case measure => simp; omega
end

section
open Go.RowKit Go.Sort
attribute [local go_sem] ByteArray.mk_append_mk

theorem sizeF_le (f : Nat) : ∀ (k : Nat) (l : List Nat), (∀ x ∈ l, x ≤ k) → l.length ≤ f → sizeF f l ≤ 6 * f + l.length * k := by
 intro k l hk hf
 rw [size_field f l hf]
 have h1 := fieldF_le f l
 have h2 : l.sum ≤ l.length * k := by
   clear h1 hf
   induction l with
   | nil => simp
   | cons x l ih =>
     have := ih (fun y hy => hk y (List.mem_cons_of_mem _ hy))
     have h3 := hk x (by simp)
     rw [List.sum_cons, List.length_cons, Nat.add_mul]; omega
 omega
theorem sizeP_le (l : List By) (h : l.length ≤ 1000000) (hk : ∀ r ∈ l, r.length ≤ 100000) : sizeP (l.map List.length) ≤ 1000000000000 := by
 unfold sizeP
 have := sizeF_le (l.map List.length).length 100000 (l.map List.length) (fun x hx => by obtain ⟨r, hr, rfl⟩ := List.mem_map.1 hx; exact hk r hr) (Nat.le_refl _)
 rw [List.length_map] at *
 have h2 : l.length * 100000 ≤ 1000000 * 100000 := Nat.mul_le_mul_right _ h
 omega

set_option maxRecDepth 100000 in
set_option maxHeartbeats 1000000 in
theorem isizeof_any (w : World) (B : Nat) (a : Option Addr) (cap : Nat) (l : List By) (h : Strs w B a l) (hB : B ≤ w.heap.size) (hcap : l.length ≤ cap) (hc63 : cap ≤ 9223372036854775807) (hl : l.length ≤ 1000000) (hk : ∀ r ∈ l, r.length ≤ 100000) :
   Calls Tryz.prog 136 #[.slice a l.length cap] w fun e w' => e = .returned (.int .i64 ((sizeP (l.map List.length) : Nat) : Int)) ∧ Below w.heap.size w w' := by
 have HB2 := Lib.hid (box_below w #[.int .i64 4] 3)
 have HS := Lib.hid (heap_alloc_new w (.cells #[.int .i64 4] 3))
 have HT := Lib.hid (sizeP_le l hl hk)
 have HK := Lib.hid hk
 go_enter Tryz.func136, Tryz.ntmps136
 go_wp2_with fail
 generalize w.alloc (.cells #[.int .i64 4] 3) = w1 at HS HB2 ⊢
 refine (runs_any w1 B w.heap.size a cap l (h.below (HB2.out.mono hB)) hB hcap hc63 hl (fun r hr => by have := HK.out r hr; omega) HS.out HT.out).mono ?_
 rintro e w2 ⟨rfl, h2, h3⟩
 have c0 := cell_at (i := 0) (v := .int .i64 ((sizeP (l.map List.length) : Nat) : Int)) h2 rfl
 have HB3 := Lib.hid (HB2.out.trans (h3.below (B := w.heap.size) HB2.out.size (fun k hk => by simp at hk; omega)))
 clear h2 h3
 obtain ⟨T, hTe⟩ : ∃ T, T = sizeP (l.map List.length) := ⟨_, rfl⟩
 rw [← hTe] at c0
 have HTE := Lib.hid hTe
 clear hTe
 go_wp2_with fail
 go_ret
 exact ⟨by rw [← HTE.out]; rfl, HB3.out⟩

theorem fits_no1 {iv : Int} {l : List By} (h : isSizeP iv = false) : fitsP iv l = false := by unfold fitsP; rw [h]; rfl
theorem fits_no2 {iv : Int} {l : List By} (h : isSizeP iv = true) (h2 : allowP l = false) : fitsP iv l = false := by unfold fitsP; rw [h, h2]; rfl
theorem fits_dec {iv : Int} {l : List By} (h : isSizeP iv = true) (h2 : allowP l = true) : fitsP iv l = decide (((sizeP (l.map List.length) : Nat) : Int) ≤ iv) := by unfold fitsP; rw [h, h2]; rfl
set_option maxRecDepth 100000 in
set_option maxHeartbeats 1000000 in
theorem ifits_any (iv : Int) (w : World) (B : Nat) (a : Option Addr) (cap : Nat) (l : List By) (h : Strs w B a l) (hB : B ≤ w.heap.size) (hcap : l.length ≤ cap) (hc63 : cap ≤ 9223372036854775807) (hl : l.length ≤ 1000000) (hk : ∀ r ∈ l, r.length ≤ 100000) :
   Calls Tryz.prog 84 #[.int .i64 iv, .slice a l.length cap] w fun e w' => e = .returned (.bool (fitsP iv l)) ∧ Below w.heap.size w w' := by
 have H1 := Lib.hid (fun W => isSize_any iv W)
 have H2 := Lib.hid (iallowed_any w B a cap l h hl)
 have H3 := Lib.hid (isizeof_any w B a cap l h hB hcap hc63 hl hk)
 cases h1 : isSizeP iv with
 | false =>
   rw [fits_no1 h1]
   rw [h1] at H1
   clear h1 h hk
   go_enter Tryz.func84, Tryz.ntmps84
   go_wp2_with fail
   refine (H1.out _).mono ?_
   rintro e w1 ⟨rfl, rfl⟩
   go_wp2_with fail
   go_ret
   exact ⟨rfl, Below.refl _ _⟩
 | true =>
   cases h2 : allowP l with
   | false =>
     rw [fits_no2 h1 h2]
     rw [h1] at H1
     rw [h2] at H2
     clear h1 h2 h hk
     go_enter Tryz.func84, Tryz.ntmps84
     go_wp2_with fail
     refine (H1.out _).mono ?_
     rintro e w1 ⟨rfl, rfl⟩
     go_wp2_with fail
     refine H2.out.mono ?_
     rintro e w2 ⟨rfl, rfl⟩
     go_wp2_with fail
     go_ret
     exact ⟨rfl, Below.refl _ _⟩
   | true =>
     rw [fits_dec h1 h2]
     rw [h1] at H1
     rw [h2] at H2
     generalize sizeP (l.map List.length) = T at H3 ⊢
     clear h1 h2 h hk
     go_enter Tryz.func84, Tryz.ntmps84
     go_wp2_with fail
     refine (H1.out _).mono ?_
     rintro e w1 ⟨rfl, rfl⟩
     go_wp2_with fail
     refine H2.out.mono ?_
     rintro e w2 ⟨rfl, rfl⟩
     go_wp2_with fail
     refine H3.out.mono ?_
     rintro e w3 ⟨rfl, hb3⟩
     go_wp2_with fail
     go_ret
     exact ⟨rfl, hb3⟩

/-! The reference. -/
end

end Go.Proofs.YtckpepfkfjdnhaaGreatDoor

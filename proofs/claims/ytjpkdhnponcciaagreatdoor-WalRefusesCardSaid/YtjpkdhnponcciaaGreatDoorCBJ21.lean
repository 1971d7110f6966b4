/-
  Walk: whether a change is valid, by the reference. No condition but the texts' lengths.
-/
import Derived.Test.YtjpkdhnponcciaaGreatDoorCBU
import Derived.BigQuiet
namespace Go.Proofs.YtjpkdhnponcciaaGreatDoor
open Go.RowKit Go.Sort

theorem fit_zero (s : By) : fitB 0 0 s = decide (s.length = 0) := by
 unfold fitB; rw [Bool.eq_iff_iff]; simp
theorem fit_le (s : By) (n : Nat) : fitB 0 (n : Int) s = decide (s.length ≤ n) := by
 unfold fitB; rw [Bool.eq_iff_iff]; simp
theorem fit_both (s : By) (n : Nat) : fitB 1 (n : Int) s = (decide (1 ≤ s.length) && decide (s.length ≤ n)) := by
 unfold fitB; rw [Bool.eq_iff_iff]; simp; omega

set_option maxRecDepth 100000 in
set_option maxHeartbeats 4000000 in
theorem rcvalid_any (kind id : Int) (key rec vol : By) (w : World) (hk : key.length ≤ 1000000) (hr : rec.length ≤ 1000000) (hv : vol.length ≤ 1000000) : Calls Tryz.prog 148 #[.agg (chC kind id key rec vol)] w fun e w' => e = .returned (.bool (chgP kind id key rec vol)) ∧ Below w.heap.size w w' := by
 have hA := heap_alloc_new w (.cells (chC kind id key rec vol) 94)
 have HB0 := Lib.hid (box_below0 w (chC kind id key rec vol) 94)
 obtain ⟨w0, hw0⟩ : ∃ w0, w0 = w.alloc (.cells (chC kind id key rec vol) 94) := ⟨_, rfl⟩
 rw [← hw0] at hA HB0
 have HW0 := Lib.hid hw0
 have c0 := cell_at (i := 0) (v := .int .i64 kind) hA rfl
 have c1 := cell_at (i := 1) (v := .int .i64 id) hA rfl
 have c2 := cell_at (i := 2) (v := .string ⟨key.toArray⟩) hA rfl
 have c3 := cell_at (i := 3) (v := .string ⟨rec.toArray⟩) hA rfl
 have c4 := cell_at (i := 4) (v := .string ⟨vol.toArray⟩) hA rfl
 have d0 : ∀ n, (w0.drewN n).cell? ⟨w.heap.size, 0, none⟩ = some (.int .i64 kind) := fun n => cell_at (w := w0.drewN n) (i := 0) hA rfl
 have d4 : ∀ n, (w0.drewN n).cell? ⟨w.heap.size, 4, none⟩ = some (.string ⟨vol.toArray⟩) := fun n => cell_at (w := w0.drewN n) (i := 4) hA rfl
 clear hA hw0
 by_cases g1 : id < 1
 · have H := Lib.hid (show chgP kind id key rec vol = false by unfold chgP; rw [decide_eq_false (show ¬ 1 ≤ id by omega)]; simp)
   go_enter Tryz.func148, Tryz.ntmps148
   go_upto_region 1 with fail
   rw [← HW0.out]
   go_wp2_with fail
   go_ret
   exact ⟨by rw [H.out]; rfl, HB0.out⟩
 · by_cases g2 : 1099511627776 < id
   · have H := Lib.hid (show chgP kind id key rec vol = false by unfold chgP; rw [decide_eq_false (show ¬ id ≤ 1099511627776 by omega)]; simp)
     go_enter Tryz.func148, Tryz.ntmps148
     go_upto_region 1 with fail
     rw [← HW0.out]
     go_wp2_with fail
     go_ret
     exact ⟨by rw [H.out]; rfl, HB0.out⟩
   · have HR := Lib.hid (show chgP kind id key rec vol = (decide (0 ≤ kind ∧ kind ≤ 7) && fitB (keyLo kind) (keyHi kind) key && fitB (recLo kind) (recHi kind) rec && (if 4 ≤ kind then volP vol else decide (vol = []))) by
       unfold chgP; rw [decide_eq_true (show 1 ≤ id by omega), decide_eq_true (show id ≤ 1099511627776 by omega)]; simp)
     have e1 : decide (id < 1) = false := by simpa using g1
     have e2 : decide (1099511627776 < id) = false := by simpa using g2
     clear g1 g2
     have HVO := Lib.hid (fun W => rvolume_any vol W hv)
     have HVE := Lib.hid (show decide (vol = []) = vol.isEmpty by cases vol <;> simp)
     go_enter Tryz.func148, Tryz.ntmps148
     go_upto_region 1 with fail
     rw [← HW0.out]
     go_upto_region 3 with fail
     go_quiet (fail)
     clear c0 c1 c2 c3 c4 e1 e2
     by_cases hin : 0 ≤ kind ∧ kind ≤ 7
     · rw [decide_eq_true hin] at HR
       obtain rfl | rfl | rfl | rfl | rfl | rfl | rfl | rfl : kind = 0 ∨ kind = 1 ∨ kind = 2 ∨ kind = 3 ∨ kind = 4 ∨ kind = 5 ∨ kind = 6 ∨ kind = 7 := by omega
       · have H := Lib.hid (show chgP 0 id key rec vol = ((decide (1 ≤ key.length) && decide (key.length ≤ 32)) && (decide (1 ≤ rec.length) && decide (rec.length ≤ 200)) && vol.isEmpty) by
           rw [HR.out, show fitB (keyLo 0) (keyHi 0) key = fitB 1 ((32 : Nat) : Int) key from rfl, show fitB (recLo 0) (recHi 0) rec = fitB 1 ((200 : Nat) : Int) rec from rfl, fit_both key 32, fit_both rec 200, HVE.out]
           simp)
         clear HR
         
         go_wp2_with (go_at_call 189; refine (HVO.out _).mono ?_; rintro e w5 ⟨rfl, rfl⟩)
         all_goals
           go_ret
           refine ⟨?_, ?_⟩
           · first | rw [H.out] | (subst_vars; rw [H.out])
             show Ending.returned (.bool _) = _
             clear HB0 H HVO
             first
               | (congr 2; simp_all; done)
               | (congr 2; simp_all; omega)
               | trace_state
           · exact below_drewN HB0.out _
       · have H := Lib.hid (show chgP 1 id key rec vol = ((decide (1 ≤ key.length) && decide (key.length ≤ 32)) && decide (rec.length = 0) && vol.isEmpty) by
           rw [HR.out, show fitB (keyLo 1) (keyHi 1) key = fitB 1 ((32 : Nat) : Int) key from rfl, show fitB (recLo 1) (recHi 1) rec = fitB 0 0 rec from rfl, fit_both key 32, fit_zero rec, HVE.out]
           simp)
         clear HR
         
         go_wp2_with (go_at_call 189; refine (HVO.out _).mono ?_; rintro e w5 ⟨rfl, rfl⟩)
         all_goals
           go_ret
           refine ⟨?_, ?_⟩
           · first | rw [H.out] | (subst_vars; rw [H.out])
             show Ending.returned (.bool _) = _
             clear HB0 H HVO
             first
               | (congr 2; simp_all; done)
               | (congr 2; simp_all; omega)
               | trace_state
           · exact below_drewN HB0.out _
       · have H := Lib.hid (show chgP 2 id key rec vol = (decide (key.length = 0) && decide (rec.length ≤ 1000) && vol.isEmpty) by
           rw [HR.out, show fitB (keyLo 2) (keyHi 2) key = fitB 0 0 key from rfl, show fitB (recLo 2) (recHi 2) rec = fitB 0 ((1000 : Nat) : Int) rec from rfl, fit_zero key, fit_le rec 1000, HVE.out]
           simp)
         clear HR
         
         go_wp2_with (go_at_call 189; refine (HVO.out _).mono ?_; rintro e w5 ⟨rfl, rfl⟩)
         all_goals
           go_ret
           refine ⟨?_, ?_⟩
           · first | rw [H.out] | (subst_vars; rw [H.out])
             show Ending.returned (.bool _) = _
             clear HB0 H HVO
             first
               | (congr 2; simp_all; done)
               | (congr 2; simp_all; omega)
               | trace_state
           · exact below_drewN HB0.out _
       · have H := Lib.hid (show chgP 3 id key rec vol = (decide (key.length = 0) && decide (rec.length = 0) && vol.isEmpty) by
           rw [HR.out, show fitB (keyLo 3) (keyHi 3) key = fitB 0 0 key from rfl, show fitB (recLo 3) (recHi 3) rec = fitB 0 0 rec from rfl, fit_zero key, fit_zero rec, HVE.out]
           simp)
         clear HR
         
         go_wp2_with (go_at_call 189; refine (HVO.out _).mono ?_; rintro e w5 ⟨rfl, rfl⟩)
         all_goals
           go_ret
           refine ⟨?_, ?_⟩
           · first | rw [H.out] | (subst_vars; rw [H.out])
             show Ending.returned (.bool _) = _
             clear HB0 H HVO
             first
               | (congr 2; simp_all; done)
               | (congr 2; simp_all; omega)
               | trace_state
           · exact below_drewN HB0.out _
       · have H := Lib.hid (show chgP 4 id key rec vol = (decide (key.length = 0) && decide (rec.length ≤ 400) && volP vol) by
           rw [HR.out, show fitB (keyLo 4) (keyHi 4) key = fitB 0 0 key from rfl, show fitB (recLo 4) (recHi 4) rec = fitB 0 ((400 : Nat) : Int) rec from rfl, fit_zero key, fit_le rec 400, HVE.out]
           simp)
         clear HR
         go_wp2_with (go_at_call 189; refine (HVO.out _).mono ?_; rintro e w5 ⟨rfl, rfl⟩)
         all_goals
           go_ret
           refine ⟨?_, ?_⟩
           · first | rw [H.out] | (subst_vars; rw [H.out])
             show Ending.returned (.bool _) = _
             clear HB0 H HVO
             first
               | (congr 2; simp_all; done)
               | (congr 2; simp_all; omega)
               | trace_state
           · exact below_drewN HB0.out _
       · have H := Lib.hid (show chgP 5 id key rec vol = (decide (key.length = 0) && decide (rec.length = 0) && volP vol) by
           rw [HR.out, show fitB (keyLo 5) (keyHi 5) key = fitB 0 0 key from rfl, show fitB (recLo 5) (recHi 5) rec = fitB 0 0 rec from rfl, fit_zero key, fit_zero rec, HVE.out]
           simp)
         clear HR
         go_wp2_with (go_at_call 189; refine (HVO.out _).mono ?_; rintro e w5 ⟨rfl, rfl⟩)
         all_goals
           go_ret
           refine ⟨?_, ?_⟩
           · first | rw [H.out] | (subst_vars; rw [H.out])
             show Ending.returned (.bool _) = _
             clear HB0 H HVO
             first
               | (congr 2; simp_all; done)
               | (congr 2; simp_all; omega)
               | trace_state
           · exact below_drewN HB0.out _
       · have H := Lib.hid (show chgP 6 id key rec vol = (decide (key.length = 0) && decide (rec.length ≤ 400) && volP vol) by
           rw [HR.out, show fitB (keyLo 6) (keyHi 6) key = fitB 0 0 key from rfl, show fitB (recLo 6) (recHi 6) rec = fitB 0 ((400 : Nat) : Int) rec from rfl, fit_zero key, fit_le rec 400, HVE.out]
           simp)
         clear HR
         go_wp2_with (go_at_call 189; refine (HVO.out _).mono ?_; rintro e w5 ⟨rfl, rfl⟩)
         all_goals
           go_ret
           refine ⟨?_, ?_⟩
           · first | rw [H.out] | (subst_vars; rw [H.out])
             show Ending.returned (.bool _) = _
             clear HB0 H HVO
             first
               | (congr 2; simp_all; done)
               | (congr 2; simp_all; omega)
               | trace_state
           · exact below_drewN HB0.out _
       · have H := Lib.hid (show chgP 7 id key rec vol = (decide (key.length = 0) && decide (rec.length ≤ 400) && volP vol) by
           rw [HR.out, show fitB (keyLo 7) (keyHi 7) key = fitB 0 0 key from rfl, show fitB (recLo 7) (recHi 7) rec = fitB 0 ((400 : Nat) : Int) rec from rfl, fit_zero key, fit_le rec 400, HVE.out]
           simp)
         clear HR
         go_wp2_with (go_at_call 189; refine (HVO.out _).mono ?_; rintro e w5 ⟨rfl, rfl⟩)
         all_goals
           go_ret
           refine ⟨?_, ?_⟩
           · first | rw [H.out] | (subst_vars; rw [H.out])
             show Ending.returned (.bool _) = _
             clear HB0 H HVO
             first
               | (congr 2; simp_all; done)
               | (congr 2; simp_all; omega)
               | trace_state
           · exact below_drewN HB0.out _
     · have H := Lib.hid (show chgP kind id key rec vol = false by rw [HR.out, decide_eq_false hin]; rfl)
       clear HR
       go_wp2_with fail
       all_goals
         first
           | (exfalso; simp_all; omega)
           | (go_ret; exact ⟨by rw [H.out]; rfl, below_drewN HB0.out _⟩)

end Go.Proofs.YtjpkdhnponcciaaGreatDoor

/-
  Walk: the reference reads the head. Condition: sectors as a slice.
-/
import Derived.Test.YthkpcalopmddpaaGreatDoorHA
import Derived.Test.YthkpcalopmddpaaGreatDoorGQ
namespace Go.Proofs.YthkpcalopmddpaaGreatDoor
open Go.RowKit Go.Sort
attribute [local go_sem ↓] loadRd_down storeRd_down

theorem hdS_left {s : By} (h : s.length = 128) : (hdS s 3).1 = [] ↔ (hdS s 3).2 ≠ 0 := by
  constructor
  · intro h1 h2
    have q2 : (hdS s 2).1 = num (hdX s 2) ++ (hdS s 3).1 := (hdS_step s 2 h2).1
    have q1 : (hdS s 1).1 = num (hdX s 1) ++ (hdS s 2).1 := (hdS_step s 1 (hdS_ok s 2 h2)).1
    have q0 : (hdS s 0).1 = num (hdX s 0) ++ (hdS s 1).1 := (hdS_step s 0 (hdS_ok s 1 (hdS_ok s 2 h2))).1
    have l2 := congrArg List.length q2
    have l1 := congrArg List.length q1
    have l0 := congrArg List.length q0
    rw [List.length_append] at l0 l1 l2
    have n0 := num_length (hdX s 0)
    have n1 := num_length (hdX s 1)
    have n2 := num_length (hdX s 2)
    rw [h1, List.length_nil] at l2
    have l00 : (hdS s 0).1.length = 128 := h
    omega
  · exact hdS_bad s 3
set_option maxRecDepth 100000 in
set_option maxHeartbeats 4000000 in
theorem rhead_read (w : World) (B : Nat) (a : Option Addr) (cap : Nat) (l : List By) (h : Strs w B a l) :
    Calls Tryz.prog 10 #[.slice a l.length cap] w fun e w' =>
      e = .returned (.tuple #[.int .i64 (headV l).1, .int .i64 (headV l).2.1, .int .i64 (headV l).2.2.1, .int .i64 (headV l).2.2.2]) ∧ Below w.heap.size w w' := by
  have HP := Lib.hid (rpage_any w B a cap l 0 h)
  by_cases he : (pageV l 0).2 = 0
  · have HV := Lib.hid (show headV l = hdV (pageV l 0).1 by unfold headV; rw [if_pos he])
    have hok := (pageV_ok he).1
    rw [he] at HP
    generalize (pageV l 0).1 = s at HP HV hok
    have hdl := hdS_left hok
    have HC0 := Lib.hid (fun W => show Calls Tryz.prog 33 #[.agg (rdC (hdS s 0).1 (hdS s 0).2), .int .i64 1099511627776] W fun e w' => e = .returned (.tuple #[.int .i64 (hdX s 0), .agg (rdC (hdS s 1).1 (hdS s 1).2)]) ∧ Below W.heap.size W w' from rcount_any _ _ W (by have := hdS_len s 0; omega))
    have HC1 := Lib.hid (fun W => show Calls Tryz.prog 33 #[.agg (rdC (hdS s 1).1 (hdS s 1).2), .int .i64 1099511627776] W fun e w' => e = .returned (.tuple #[.int .i64 (hdX s 1), .agg (rdC (hdS s 2).1 (hdS s 2).2)]) ∧ Below W.heap.size W w' from rcount_any _ _ W (by have := hdS_len s 1; omega))
    have HC2 := Lib.hid (fun W => show Calls Tryz.prog 33 #[.agg (rdC (hdS s 2).1 (hdS s 2).2), .int .i64 1099511627776] W fun e w' => e = .returned (.tuple #[.int .i64 (hdX s 2), .agg (rdC (hdS s 3).1 (hdS s 3).2)]) ∧ Below W.heap.size W w' from rcount_any _ _ W (by have := hdS_len s 2; omega))
    have HZR := Lib.hid (fun W => rzero_any (hdS s 3).1 W (by have := hdS_len s 3; omega))
    clear he
    obtain ⟨W0, hW0⟩ : ∃ W0, W0 = (w.alloc (.cells rdz 72)).setRow w.heap.size (rdC s 0) := ⟨_, rfl⟩
    have st0 : (storeRd ⟨w.heap.size, 0, none⟩ (.agg #[.string ⟨s.toArray⟩, .int .i64 0])).run Tryz.prog (w.alloc (.cells rdz 72)) = .ok () W0 := by rw [hW0]; exact storeRd_at (heap_alloc_new w _) rfl rfl (rdC_one s 0)
    have HG0 := Lib.hid (show W0.heap[w.heap.size]? = some (.cells (rdC (hdS s 0).1 (hdS s 0).2) 72 (0, 0)) by rw [hW0]; exact setRow_heap _ _ _ _ _ _ (heap_alloc_new w _))
    have HB0 := Lib.hid (show Below w.heap.size w W0 by rw [hW0]; exact Below.setRow (box_below w _ _) (Nat.le_refl _) _)
    have dl0 := loadRd_at HG0.out rfl
    clear hW0
    go_enter Tryz.func10, Tryz.ntmps10
    go_wp2_with fail
    refine HP.out.mono ?_
    rintro e _ ⟨rfl, rfl⟩
    go_wp2_with fail
    refine (HC0.out _).mono ?_
    rintro e v1 ⟨rfl, hb1⟩
    have hv1 := (hb1.block w.heap.size (lt_of_block HG0.out)).trans HG0.out
    obtain ⟨W1, hW1⟩ : ∃ W1, W1 = v1.setRow w.heap.size (rdC (hdS s 1).1 (hdS s 1).2) := ⟨_, rfl⟩
    have st1 := storeRd_at (cs := rdC (hdS s 1).1 (hdS s 1).2) hv1 rfl rfl (rdC_one _ _)
    have HG1 := Lib.hid (show W1.heap[w.heap.size]? = some (.cells (rdC (hdS s 1).1 (hdS s 1).2) 72 (0, 0)) by rw [hW1]; exact setRow_heap _ _ _ _ _ _ hv1)
    have HB1 := Lib.hid (show Below w.heap.size w W1 by rw [hW1]; exact Below.setRow (HB0.out.trans (hb1.mono HB0.out.size)) (Nat.le_refl _) _)
    rw [← hW1] at st1
    clear hb1 hv1 hW1 dl0
    have dl1 := loadRd_at HG1.out rfl
    go_wp2_with fail
    refine (HC1.out _).mono ?_
    rintro e v2 ⟨rfl, hb2⟩
    have hv2 := (hb2.block w.heap.size (lt_of_block HG1.out)).trans HG1.out
    obtain ⟨W2, hW2⟩ : ∃ W2, W2 = v2.setRow w.heap.size (rdC (hdS s 2).1 (hdS s 2).2) := ⟨_, rfl⟩
    have st2 := storeRd_at (cs := rdC (hdS s 2).1 (hdS s 2).2) hv2 rfl rfl (rdC_one _ _)
    have HG2 := Lib.hid (show W2.heap[w.heap.size]? = some (.cells (rdC (hdS s 2).1 (hdS s 2).2) 72 (0, 0)) by rw [hW2]; exact setRow_heap _ _ _ _ _ _ hv2)
    have HB2 := Lib.hid (show Below w.heap.size w W2 by rw [hW2]; exact Below.setRow (HB1.out.trans (hb2.mono HB1.out.size)) (Nat.le_refl _) _)
    rw [← hW2] at st2
    clear hb2 hv2 hW2 dl1
    have dl2 := loadRd_at HG2.out rfl
    go_wp2_with fail
    refine (HC2.out _).mono ?_
    rintro e v3 ⟨rfl, hb3⟩
    have hv3 := (hb3.block w.heap.size (lt_of_block HG2.out)).trans HG2.out
    obtain ⟨W3, hW3⟩ : ∃ W3, W3 = v3.setRow w.heap.size (rdC (hdS s 3).1 (hdS s 3).2) := ⟨_, rfl⟩
    have st3 := storeRd_at (cs := rdC (hdS s 3).1 (hdS s 3).2) hv3 rfl rfl (rdC_one _ _)
    have HG3 := Lib.hid (show W3.heap[w.heap.size]? = some (.cells (rdC (hdS s 3).1 (hdS s 3).2) 72 (0, 0)) by rw [hW3]; exact setRow_heap _ _ _ _ _ _ hv3)
    have HB3 := Lib.hid (show Below w.heap.size w W3 by rw [hW3]; exact Below.setRow (HB2.out.trans (hb3.mono HB2.out.size)) (Nat.le_refl _) _)
    rw [← hW3] at st3
    clear hb3 hv3 hW3 dl2
    skip
    have HD := Lib.hid (show hdV s = if (hdS s 3).1 = [] ∨ (hdS s 3).1 ≠ zeros (hdS s 3).1.length then (0, 0, 0, 11) else (hdX s 0, hdX s 1, hdX s 2, 0) from rfl)
    have c1 := cell_at (i := 1) (v := .int .i64 (hdS s 3).2) HG3.out rfl
    have c0 := cell_at (i := 0) (v := .string ⟨(hdS s 3).1.toArray⟩) HG3.out rfl
    generalize hdX s 0 = x0 at *
    generalize hdX s 1 = x1 at *
    generalize hdX s 2 = x2 at *
    generalize hdS s 3 = h3 at *
    obtain ⟨lf, er⟩ := h3
    simp only at hdl c0 c1 HZR HD
    by_cases hz : er = 0
    rotate_left
    · have hV : hdV s = (0, 0, 0, 11) := by rw [HD.out, if_pos (Or.inl (hdl.2 hz))]
      have HVV := Lib.hid (HV.out.trans hV)
      have e1 : (er == 0) = false := by simp [hz]
      have e2 : (er != 0) = true := by simp [hz]
      clear hV hz hdl
      go_wp2_with fail
      refine bodyPost_ret4 rfl rfl rfl rfl rfl rfl ?_
      rw [HVV.out]
      exact ⟨rfl, HB3.out⟩
    · subst hz
      have hne : ¬ lf = [] := fun h => (hdl.1 h) rfl
      by_cases hzz : lf = zeros lf.length
      · have hV : hdV s = (x0, x1, x2, 0) := by rw [HD.out, if_neg (by rintro (h | h); exact hne h; exact h hzz)]
        have HVV := Lib.hid (HV.out.trans hV)
        rw [show decide (lf = zeros lf.length) = true from decide_eq_true hzz] at HZR
        clear hV hdl hne hzz
        go_wp2_with fail
        refine (HZR.out _).mono ?_
        rintro e _ ⟨rfl, rfl⟩
        go_wp2_with fail
        refine bodyPost_ret4 rfl rfl rfl rfl rfl rfl ?_
        rw [HVV.out]
        exact ⟨rfl, HB3.out⟩
      · have hV : hdV s = (0, 0, 0, 11) := by rw [HD.out, if_pos (Or.inr hzz)]
        have HVV := Lib.hid (HV.out.trans hV)
        rw [show decide (lf = zeros lf.length) = false from decide_eq_false hzz] at HZR
        clear hV hdl hne hzz
        go_wp2_with fail
        refine (HZR.out _).mono ?_
        rintro e _ ⟨rfl, rfl⟩
        go_wp2_with fail
        refine bodyPost_ret4 rfl rfl rfl rfl rfl rfl ?_
        rw [HVV.out]
        exact ⟨rfl, HB3.out⟩
  · have HV := Lib.hid (show headV l = (0, 0, 0, (pageV l 0).2) by unfold headV; rw [if_neg he])
    generalize (pageV l 0).2 = er at HP HV he
    generalize (pageV l 0).1 = s at HP
    have e1 : (er == 0) = false := by simp [he]
    have e2 : (er != 0) = true := by simp [he]
    clear he
    go_enter Tryz.func10, Tryz.ntmps10
    go_wp2_with fail
    refine HP.out.mono ?_
    rintro e _ ⟨rfl, rfl⟩
    go_wp2_with fail
    refine bodyPost_ret4 rfl rfl rfl rfl rfl rfl ?_
    rw [HV.out]
    exact ⟨rfl, Below.refl _ _⟩

end Go.Proofs.YthkpcalopmddpaaGreatDoor

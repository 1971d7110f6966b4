/-
  Walk: the reference clips a run. Condition: numbers of 64 bits.
-/
import Derived.Test.YtcidbmldbikknaaGreatDoorE4
namespace Go.Proofs.YtcidbmldbikknaaGreatDoor
open Go.RowKit Go.Sort
attribute [local go_sem ↓] loadRn_down storeRn_down

/-- What the loop of the reference's clip holds. -/
structure RkSt (w : World) (r : Rn) (W : World) (k : Nat) : Prop where
  bel : Below w.heap.size w W
  arg : W.heap[w.heap.size]? = some (.cells #[.int .i64 r.1, .int .i64 r.2] 68 (0, 0))
  res : W.heap[w.heap.size + 1]? = some (.cells #[.int .i64 0, .int .i64 0] 68 (0, 0))
  out : W.heap[w.heap.size + 2]? = some (.cells #[.int .i64 (stP r k).1, .int .i64 (stP r k).2] 68 (0, 0))
theorem RkSt.below {w W W' : World} {r : Rn} {k : Nat} (h : RkSt w r W k) (hb : Below W.heap.size W W') : RkSt w r W' k :=
  ⟨h.bel.trans (hb.mono h.bel.size), (hb.block _ (lt_of_block h.arg)).trans h.arg, (hb.block _ (lt_of_block h.res)).trans h.res, (hb.block _ (lt_of_block h.out)).trans h.out⟩

set_option maxRecDepth 100000 in
set_option maxHeartbeats 4000000 in
theorem rclip_any (r : Rn) (hr : okRn r) (w : World) :
    Calls Tryz.prog 63 #[.agg #[.int .i64 r.1, .int .i64 r.2]] w fun e w' => e = .returned (.agg (rnC (clipP r).1 (clipP r).2)) ∧ Below w.heap.size w w' := by
  have HH := Lib.hid (fun t (ht : t < 128) W => rholds_any r hr t ht W)
  have HE := Lib.hid (stP_end r)
  obtain ⟨W1, hW1⟩ : ∃ W1, W1 = ((w.alloc (.cells #[.int .i64 r.1, .int .i64 r.2] 68)).alloc (.cells #[.int .i64 0, .int .i64 0] 68)).alloc (.cells #[.int .i64 0, .int .i64 0] 68) := ⟨_, rfl⟩
  have h0 : W1.heap[w.heap.size]? = some (.cells #[.int .i64 r.1, .int .i64 r.2] 68 (0, 0)) := by rw [hW1, halloc _ _ (by simp; omega), halloc _ _ (by simp)]; exact heap_alloc_new w _
  have h1 : W1.heap[w.heap.size + 1]? = some (.cells #[.int .i64 0, .int .i64 0] 68 (0, 0)) := by rw [hW1, halloc _ _ (by simp)]; exact two_new w _ _ _ _
  have h2 : W1.heap[w.heap.size + 2]? = some (.cells #[.int .i64 0, .int .i64 0] 68 (0, 0)) := by
    rw [hW1]
    have := heap_alloc_new ((w.alloc (.cells #[.int .i64 r.1, .int .i64 r.2] 68)).alloc (.cells #[.int .i64 0, .int .i64 0] 68)) (.cells #[.int .i64 0, .int .i64 0] 68)
    simpa using this
  have hb1 : Below w.heap.size w W1 := by rw [hW1]; exact (two_below w _ _ _ _).alloc (by simp; omega) _
  obtain ⟨W2, hW2⟩ : ∃ W2, W2 = W1.setRow (w.heap.size + 2) #[.int .i64 0, .int .i64 0] := ⟨_, rfl⟩
  have st := storeRn_at (cs := #[.int .i64 0, .int .i64 0]) h2 rfl rfl (rnC_one _ _)
  rw [← hW2, hW1] at st
  have HS := Lib.hid (show RkSt w r W2 0 from ⟨by rw [hW2]; exact Below.setRow hb1 (by omega) _,
    by rw [hW2]; exact (setRow_other _ _ _ _ (by omega)).trans h0, by rw [hW2]; exact (setRow_other _ _ _ _ (by omega)).trans h1,
    by rw [hW2, show stP r 0 = (0, 0) by unfold stP; rw [if_pos (Or.inr (Nat.zero_le _))]]; exact setRow_heap _ _ _ _ _ _ h2⟩)
  clear hW1 h0 h1 h2 hb1 hW2
  go_enter Tryz.func63, Tryz.ntmps63
  go_wp2_with fail
  clear st
  go_loopw [4] (fun x wr => ∃ k : Nat, k ≤ 128 ∧ x = .int .i64 k ∧ RkSt w r wr k) (fun x _ => 128 - (intOf x).toNat)
  case atStart => exact ⟨0, by omega, rfl, HS.out⟩
  case round =>
    clear HS
    obtain ⟨k, hk, rfl, hS⟩ := hrel
    have HS := Lib.hid hS
    by_cases hlt : k < 128
    · have dl := loadRn_at hS.arg rfl
      have hcall := HH.out k hlt wr
      have hno := stP_no r k hlt
      have hyes := stP_yes r k hlt
      clear hS
      generalize holdsP r k = q at hcall hno hyes
      have HC := Lib.hid hcall
      clear hcall
      cases q with
      | false =>
        have HN := Lib.hid (hno rfl)
        clear hno hyes
        go_wp2_with fail
        refine HC.out.mono ?_
        rintro e w2 ⟨rfl, hb2⟩
        have HZ := Lib.hid (show RkSt w r w2 (k + 1) from by
          have h := HS.out.below hb2
          exact ⟨h.bel, h.arg, h.res, by rw [HN.out]; exact h.out⟩)
        clear hb2 dl
        go_wp2_with fail
        go_roundw
        case rel => exact ⟨k + 1, by omega, by go_num, HZ.out⟩
        case measure => simp [intOf]; omega
      | true =>
        obtain ⟨hy1, hy2, hy3⟩ := hyes rfl
        clear hno hyes
        go_wp2_with fail
        refine HC.out.mono ?_
        rintro e w2 ⟨rfl, hb2⟩
        have h := HS.out.below hb2
        have hb := h.bel
        have ho := h.out
        have HH2 := Lib.hid h
        clear hb2 dl h
        generalize stP r k = s at hy1 hy2 hy3 ho
        obtain ⟨f, c⟩ := s
        simp only at hy1 hy2 hy3 ho
        have HO := Lib.hid ho
        have k1 := cell_at (i := 1) (v := .int .i64 c) ho rfl
        have k0 := cell_at (i := 0) (v := .int .i64 f) ho rfl
        have f0 := free_at ho 0
        have f1 := free_at ho 1
        clear ho hb
        by_cases hc : c = 0
        · subst hc
          have HN := Lib.hid (hy1 rfl)
          clear hy1 hy2
          have z0 : ((0 : Nat) : Int) = 0 := rfl
          rw [z0] at k1
          have HZ := Lib.hid (show RkSt w r ((w2.setCell ⟨w.heap.size + 2, 0, none⟩ (.int .i64 (k : Int))).setCell ⟨w.heap.size + 2, 1, none⟩ (.int .i64 1)) (k + 1) from
            ⟨(HH2.out.bel.setCell (p := ⟨w.heap.size + 2, 0, none⟩) (show w.heap.size ≤ w.heap.size + 2 by omega) _).setCell (p := ⟨w.heap.size + 2, 1, none⟩) (show w.heap.size ≤ w.heap.size + 2 by omega) _,
             (Below.heap_setCell _ _ _ _ (show w.heap.size ≠ w.heap.size + 2 by omega)).trans ((Below.heap_setCell _ _ _ _ (show w.heap.size ≠ w.heap.size + 2 by omega)).trans HH2.out.arg),
             (Below.heap_setCell _ _ _ _ (show w.heap.size + 1 ≠ w.heap.size + 2 by omega)).trans ((Below.heap_setCell _ _ _ _ (show w.heap.size + 1 ≠ w.heap.size + 2 by omega)).trans HH2.out.res),
             by rw [HN.out]; exact cell_row_any _ _ _ _ _ _ _ (cell_row_any _ _ _ _ _ _ _ HO.out)⟩)
          go_wp2_with fail
          go_roundw
          case rel => exact ⟨k + 1, by omega, by go_num, HZ.out⟩
          case measure => simp [intOf]; omega
        · have HN := Lib.hid (hy2 hc)
          have e1 : ((c : Int) == 0) = false := by simp [hc]
          clear hy1 hy2
          have HZ := Lib.hid (show RkSt w r (w2.setCell ⟨w.heap.size + 2, 1, none⟩ (.int .i64 ((c : Int) + 1))) (k + 1) from
            ⟨HH2.out.bel.setCell (p := ⟨w.heap.size + 2, 1, none⟩) (show w.heap.size ≤ w.heap.size + 2 by omega) _,
             (Below.heap_setCell _ _ _ _ (show w.heap.size ≠ w.heap.size + 2 by omega)).trans HH2.out.arg,
             (Below.heap_setCell _ _ _ _ (show w.heap.size + 1 ≠ w.heap.size + 2 by omega)).trans HH2.out.res,
             by rw [HN.out]; exact cell_row_any _ _ _ _ _ _ _ HO.out⟩)
          clear hc
          go_wp2_with fail
          go_roundw
          case rel => exact ⟨k + 1, by omega, by go_num, HZ.out⟩
          case measure => simp [intOf]; omega
    · have hk' : k = 128 := by omega
      subst hk'
      have ho := hS.out
      rw [HE.out] at ho
      have dl := loadRn_at ho rfl
      have st := storeRn_at (cs := #[.int .i64 ((clipP r).1 : Int), .int .i64 ((clipP r).2 : Int)]) hS.res rfl rfl (rnC_one _ _)
      have HG := Lib.hid (setRow_heap _ _ _ #[.int .i64 ((clipP r).1 : Int), .int .i64 ((clipP r).2 : Int)] _ _ hS.res)
      have HBF := Lib.hid (Below.setRow hS.bel (show w.heap.size ≤ w.heap.size + 1 by omega) #[.int .i64 ((clipP r).1 : Int), .int .i64 ((clipP r).2 : Int)])
      clear hS ho
      go_wp2_with fail
      refine ret_rn (cs := #[.int .i64 ((clipP r).1 : Int), .int .i64 ((clipP r).2 : Int)]) rfl rfl rfl rfl HG.out ?_
      exact ⟨rfl, HBF.out⟩

end Go.Proofs.YtcidbmldbikknaaGreatDoor

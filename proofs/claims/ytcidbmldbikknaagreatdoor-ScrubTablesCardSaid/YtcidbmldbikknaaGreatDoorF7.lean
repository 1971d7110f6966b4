/-
  Walk: the table of three empty labels is valid, by the reference. Condition: the table lies in memory.
-/
import Derived.Test.YtcidbmldbikknaaGreatDoorF6
namespace Go.Proofs.YtcidbmldbikknaaGreatDoor
open Go.RowKit Go.Sort
attribute [local go_sem ↓] loadRn_down storeRn_down loadLab_down storeLab_down loadTab_down

set_option maxRecDepth 100000 in
set_option maxHeartbeats 8000000 in
theorem valid_zero (w : World) (B b cap : Nat) (h : Zer w B b) (hB : B ≤ w.heap.size) :
    Calls Tryz.prog 84 #[.agg #[.string ⟨#[86]⟩, .int .i64 16, .slice (some ⟨b, 0, none⟩) 3 cap]] w fun e w' => e = .returned (.bool true) ∧ Below w.heap.size w w' := by
  obtain ⟨W0, hW0⟩ : ∃ W0, W0 = w.alloc (.cells #[.string ⟨#[86]⟩, .int .i64 16, .slice (some ⟨b, 0, none⟩) 3 cap] 24) := ⟨_, rfl⟩
  have HBW := Lib.hid (show Below w.heap.size w W0 by rw [hW0]; exact box_below w _ _)
  have hd0 : W0.heap[w.heap.size]? = some (.cells #[.string ⟨#[86]⟩, .int .i64 16, .slice (some ⟨b, 0, none⟩) 3 cap] 24 (0, 0)) := by rw [hW0]; exact heap_alloc_new w _
  have HD0 := Lib.hid hd0
  have HZ := Lib.hid h
  have HV := Lib.hid (fun W => validname_V W)
  have HTT := Lib.hid (fun W => show Calls Tryz.prog 23 #[.int .i64 16] W fun e w' => e = .returned (.int .i64 4) ∧ w' = W from (rtabletracks_any 16 W).mono fun e w' ⟨q1, q2⟩ => ⟨q1, q2.symm⟩)
  have HSL := Lib.hid (fun W => slots_16 W)
  have HE := Lib.hid (fun W => show Calls Tryz.prog 60 #[.agg zeroV] W fun e w' => e = .returned (.bool true) ∧ Below W.heap.size W w' from rempty_c 0 0 [] [] none 0 0 W)
  have HU := Lib.hid (fun W h1 h2 => used_zero W B b cap [86] 16 h1 h2)
  have HDJ := Lib.hid (fun W a c => disjoint_nil W a c)
  have t0 := cell_at (i := 0) (v := .string ⟨#[86]⟩) hd0 rfl
  have t1 := cell_at (i := 1) (v := .int .i64 16) hd0 rfl
  have t2 := cell_at (i := 2) (v := .slice (some ⟨b, 0, none⟩) 3 cap) hd0 rfl
  have HW0 := Lib.hid hW0
  clear h hW0 hd0
  go_enter Tryz.func84, Tryz.ntmps84
  go_wp2_with fail
  rw [← HW0.out]
  go_quiet (first | (go_at_call 82; exact Calls.quiet_of_same (HV.out _)) | (go_at_call 23; exact Calls.quiet_of_same (HTT.out _)) | (go_at_call 83; exact Calls.quiet_of_same (HSL.out _)))
  go_wp2_with fail
  clear t0 t1 t2
  have HB5 := Lib.hid (below_drewN (Below.refl W0.heap.size W0) nq)
  generalize W0.drewN nq = W5 at HB5 ⊢
  clear HV HTT HSL
  go_loopw [3] (fun k wr => ∃ j : Nat, j ≤ 3 ∧ k = .int .i64 j ∧ Below W0.heap.size W0 wr) (fun k _ => 3 - (intOf k).toNat)
  case atStart => exact ⟨0, by omega, rfl, HB5.out⟩
  case round =>
    clear HB5
    obtain ⟨j, hj, rfl, hb⟩ := hrel
    have HB := Lib.hid hb
    have hd := (hb.block w.heap.size (lt_of_block HD0.out)).trans HD0.out
    have t2 := cell_at (i := 2) (v := .slice (some ⟨b, 0, none⟩) 3 cap) hd rfl
    have dlt := loadTab_at hd rfl
    have HD := Lib.hid hd
    have hz := HZ.out.below (((HBW.out.trans (hb.mono HBW.out.size))).mono hB)
    have HZ1 := Lib.hid hz
    clear hb hd
    by_cases hlt : j < 3
    · have hltI : (j : Int) < 3 := by omega
      have hbw : b < wr.heap.size := Nat.lt_of_lt_of_le HZ.out.lt (Nat.le_trans hB (HBW.out.trans (HB.out.mono HBW.out.size)).size)
      have dl0 := loadLab_mid (hz.c0 j hlt) (hz.c1 j hlt) (hz.c2 j hlt) (hz.c3 j hlt) (hz.c4 j hlt)
      obtain ⟨W1, hW1⟩ : ∃ W1, W1 = (wr.alloc (.cells zeroV 43)).setRow wr.heap.size zeroV := ⟨_, rfl⟩
      have st1 := storeLab_at (cs := zeroV) (heap_alloc_new wr (.cells zeroV 43)) rfl rfl (by simp [Value.oneCell'])
      have hg1 : W1.heap[wr.heap.size]? = some (.cells zeroV 43 (0, 0)) := by rw [hW1]; exact setRow_heap _ _ _ _ _ _ (heap_alloc_new _ _)
      have hb1 : Below wr.heap.size wr W1 := by rw [hW1]; exact Below.setRow (box_below _ _ _) (Nat.le_refl _) _
      rw [← hW1] at st1
      have dl1 := loadLab_at hg1 rfl
      have HG1 := Lib.hid hg1
      have HB1 := Lib.hid (HB.out.trans (hb1.mono HB.out.size))
      clear hz hW1 hg1 hb1 dlt
      simp only [zeroV] at dl0 st1 dl1 HE HG1
      generalize hlb : wr.heap.size = lb at *
      go_wp2_with fail
      refine (HE.out _).mono ?_
      rintro e w2 ⟨rfl, hb2⟩
      have HB2 := Lib.hid (HB1.out.trans (hb2.mono HB1.out.size))
      have HG2 := Lib.hid ((hb2.block lb (lt_of_block HG1.out)).trans HG1.out)
      clear hb2 dl0 dl1 st1 t2
      go_wp2_with fail
      go_loopw [5] (fun k wq => ∃ m : Nat, m ≤ j ∧ k = .int .i64 m ∧ Below W0.heap.size W0 wq ∧ Below w2.heap.size w2 wq) (fun k _ => j - (intOf k).toNat)
      case atStart => exact ⟨0, by omega, rfl, HB2.out, Below.refl _ _⟩
      case round =>
        clear HB2
        obtain ⟨m, hm, rfl, hb3, hb4⟩ := hrel
        have HB3 := Lib.hid hb3
        have HB4 := Lib.hid hb4
        have hd := (hb3.block w.heap.size (lt_of_block HD0.out)).trans HD0.out
        have t2 := cell_at (i := 2) (v := .slice (some ⟨b, 0, none⟩) 3 cap) hd rfl
        have hz := HZ.out.below (((HBW.out.trans (hb3.mono HBW.out.size))).mono hB)
        have hg := (hb4.block lb (lt_of_block HG2.out)).trans HG2.out
        clear hb3 hb4 hd
        by_cases hmt : m < j
        · have hmtI : (m : Int) < (j : Int) := by omega
          have hm3I : (m : Int) < 3 := by omega
          have hm3 : m < 3 := by omega
          have dl0 := loadLab_mid (hz.c0 m hm3) (hz.c1 m hm3) (hz.c2 m hm3) (hz.c3 m hm3) (hz.c4 m hm3)
          obtain ⟨W6, hW6⟩ : ∃ W6, W6 = (wr.alloc (.cells zeroV 43)).setRow wr.heap.size zeroV := ⟨_, rfl⟩
          have st6 := storeLab_at (cs := zeroV) (heap_alloc_new wr (.cells zeroV 43)) rfl rfl (by simp [Value.oneCell'])
          have hb6 : Below wr.heap.size wr W6 := by rw [hW6]; exact Below.setRow (box_below _ _ _) (Nat.le_refl _) _
          have hg6 := (hb6.block lb (lt_of_block hg)).trans hg
          rw [← hW6] at st6
          have dl6 := loadLab_at hg6 rfl
          have HB6 := Lib.hid (HB3.out.trans (hb6.mono HB3.out.size))
          have HB7 := Lib.hid (HB4.out.trans (hb6.mono HB4.out.size))
          clear hz hg hW6 hb6 hg6
          simp only [zeroV] at dl0 st6 dl6
          go_wp2_with fail
          refine (HE.out _).mono ?_
          rintro e w8 ⟨rfl, hb8⟩
          have HB8 := Lib.hid (HB6.out.trans (hb8.mono HB6.out.size))
          have HB9 := Lib.hid (HB7.out.trans (hb8.mono HB7.out.size))
          clear hb8 dl0 st6 dl6 t2
          go_wp2_with fail
          go_roundw
          case rel => exact ⟨m + 1, by omega, by go_num, HB8.out, HB9.out⟩
          case measure => simp [intOf]; omega
        · have hmtI : ¬ (m : Int) < (j : Int) := by omega
          clear hz hg t2
          go_wp2_with fail
          go_roundw
          case rel => exact ⟨j + 1, by omega, by go_num, HB3.out⟩
          case measure => simp [intOf]; omega
    · obtain rfl : j = 3 := by omega
      have hltI : ¬ ((3 : Nat) : Int) < 3 := by omega
      have HUU := Lib.hid (HU.out wr hz (Nat.le_trans hB (HBW.out.trans (HB.out.mono HBW.out.size)).size))
      clear hz
      simp only [tabC] at HUU
      go_wp2_with fail
      refine HUU.out.mono ?_
      rintro e w2 ⟨ra, rc, rfl, hb2⟩
      have HB2 := Lib.hid (HB.out.trans (hb2.mono HB.out.size))
      clear hb2 dlt t2
      go_wp2_with fail
      refine (HDJ.out _ _ _).mono ?_
      rintro e w3 ⟨rfl, hb3⟩
      have HB3 := Lib.hid (HB2.out.trans (hb3.mono HB2.out.size))
      clear hb3
      go_wp2_with fail
      go_ret
      exact ⟨rfl, HBW.out.trans (HB3.out.mono HBW.out.size)⟩

end Go.Proofs.YtcidbmldbikknaaGreatDoor

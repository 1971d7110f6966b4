/-
  Walks: the free tracks of the table of three empty labels, and a table with another label in a slot, by the reference. Condition: the table lies in memory.
-/
import Derived.Test.YtcidbmldbikknaaGreatDoorF7
import Derived.Deep.RegionHeld3
namespace Go.Proofs.YtcidbmldbikknaaGreatDoor
open Go.RowKit Go.Sort
attribute [local go_sem ↓] loadRn_down storeRn_down loadLab_down storeLab_down loadTab_down

theorem free_16 : minP (freeF 4 16 128) [] = [(4, 12)] := by decide +kernel
theorem free_12 : minP [(4, 12)] [] = [(4, 12)] := by decide +kernel
abbrev tab0 (b cap : Nat) : Array Value := #[.string ⟨#[86]⟩, .int .i64 16, .slice (some ⟨b, 0, none⟩) 3 cap]

set_option maxRecDepth 100000 in
set_option maxHeartbeats 8000000 in
theorem free_zero (w : World) (B b cap : Nat) (h : Zer w B b) (hB : B ≤ w.heap.size) :
    Calls Tryz.prog 86 #[.agg (tab0 b cap)] w fun e w' => ∃ ra rc, e = .returned (.slice ra 1 rc) ∧ Runs w' w'.heap.size ra [(4, 12)] ∧ Below w.heap.size w w' := by
  obtain ⟨W0, hW0⟩ : ∃ W0, W0 = w.alloc (.cells (tab0 b cap) 24) := ⟨_, rfl⟩
  have HBW := Lib.hid (show Below w.heap.size w W0 by rw [hW0]; exact box_below w _ _)
  have hd0 : W0.heap[w.heap.size]? = some (.cells (tab0 b cap) 24 (0, 0)) := by rw [hW0]; exact heap_alloc_new w _
  have HD0 := Lib.hid hd0
  have HZ := Lib.hid h
  have HV := Lib.hid (fun W h1 h2 => valid_zero W B b cap h1 h2)
  have HTT := Lib.hid (fun W => show Calls Tryz.prog 23 #[.int .i64 16] W fun e w' => e = .returned (.int .i64 4) ∧ w' = W from (rtabletracks_any 16 W).mono fun e w' ⟨q1, q2⟩ => ⟨q1, q2.symm⟩)
  have HU := Lib.hid (fun W h1 h2 => used_zero W B b cap [86] 16 h1 h2)
  have HF := Lib.hid (fun W ra rc => show Calls Tryz.prog 110 #[.int .i64 4, .int .i64 16, .slice ra 0 rc] W fun e w' => ∃ v, e = .returned v ∧ w'.ownsRow W.heap.size 68 2 v 1 (refsF [(4, 12)]) ∧ Below W.heap.size W w' by
    have := rfree_any W W.heap.size ra rc [] 4 16 (runs_nil _ _ _) (Nat.le_refl _) (by simp)
    rw [free_16] at this
    exact this)
  have dl := loadTab_at (heap_alloc_new w (.cells (tab0 b cap) 24)) rfl
  have HW0 := Lib.hid hW0
  clear h hW0 hd0
  simp only [tab0] at dl
  go_enter Tryz.func86, Tryz.ntmps86
  go_wp2_with fail
  rw [← HW0.out]
  refine (HV.out _ (HZ.out.below (HBW.out.mono hB)) (Nat.le_trans hB HBW.out.size)).mono ?_
  rintro e w1 ⟨rfl, hb1⟩
  have HB1 := Lib.hid (HBW.out.trans (hb1.mono HBW.out.size))
  have hd1 := (hb1.block w.heap.size (lt_of_block HD0.out)).trans HD0.out
  have HD1 := Lib.hid hd1
  have hd1d : w1.drew.heap[w.heap.size]? = some (.cells (tab0 b cap) 24 (0, 0)) := hd1
  have d1 := cell_at (i := 1) (v := .int .i64 16) hd1d rfl
  have dl1 := loadTab_at hd1d rfl
  simp only [tab0] at dl1
  clear hb1 dl hd1 hd1d
  go_wp2_with fail
  go_region_held3 (fun w' => w'.cell? ⟨w.heap.size, 1, none⟩ = some (.int .i64 16) ∧ (loadTab ⟨w.heap.size, 0, none⟩).run Tryz.prog w' = .ok (.agg #[.string ⟨#[86]⟩, .int .i64 16, .slice (some ⟨b, 0, none⟩) 3 cap]) w') (first | assumption | exact ⟨by assumption, by assumption⟩)
   ((first
     | (go_at_call 23
        refine (HTT.out _).mono ?_
        rintro e _ ⟨rfl, rfl⟩)
     | (go_at_call 107
        refine (HU.out w1.drew (HZ.out.below ((below_drewN HB1.out 1).mono hB)) (Nat.le_trans hB HB1.out.size)).mono ?_
        rintro e w2 ⟨ra, rc, rfl, hb2⟩
        have hb2 : Below w1.heap.size w1 w2 := below_drew1.trans hb2
        have HD2 := Lib.hid ((hb2.block w.heap.size (lt_of_block HD1.out)).trans HD1.out)
        have g1 := cell_at (i := 1) (v := .int .i64 16) HD2.out rfl
        have gl := loadTab_at HD2.out rfl
        simp only [tab0] at gl
        have HB2 := Lib.hid (HB1.out.trans (hb2.mono HB1.out.size))
        clear hb2)
     | (go_at_call 110
        refine (HF.out _ ra rc).mono ?_
        rintro e w3 ⟨v, rfl, hO, hb3⟩
        have HD3 := Lib.hid ((hb3.block w.heap.size (lt_of_block HD2.out)).trans HD2.out)
        have q1 := cell_at (i := 1) (v := .int .i64 16) HD3.out rfl
        have ql := loadTab_at HD3.out rfl
        simp only [tab0] at ql
        have HB3 := Lib.hid (HB2.out.trans (hb3.mono HB2.out.size))
        have HO3 := Lib.hid hO
        clear hb3 hO)))
  clear q1 ql g1 gl d1 dl1
  go_wp2_with fail
  go_ret
  obtain ⟨ra2, rc2, hv, hR⟩ := runs_of_row (l := [(4, 12)]) HO3.out (fun r hr => by obtain rfl : r = (4, 12) := (by simpa using hr); exact ⟨by unfold okI; simp, by unfold okI; simp⟩)
  subst hv
  exact ⟨ra2, rc2, rfl, hR, HB3.out⟩

end Go.Proofs.YtcidbmldbikknaaGreatDoor

/-
  Walk: the law's example. No condition.
-/
import Derived.Test.YtcidbmldbikknaaGreatDoorF11
namespace Go.Proofs.YtcidbmldbikknaaGreatDoor
open Go.RowKit Go.Sort
attribute [local go_sem ↓] loadRn_down storeRn_down loadLab_down storeLab_down loadTab_down storeTab_down storeRef_down

theorem ExAt.keep {lo : Nat} {w W : World} {g : Nat} (h : ExAt lo w g) (hs : w.heap.size ≤ W.heap.size) (hk : ∀ k, lo ≤ k → k < w.heap.size → W.heap[k]? = w.heap[k]?) : ExAt lo W g :=
  fun W' h1 h2 => h W' (Nat.le_trans hs h1) (fun k q1 q2 => (h2 k q1 (Nat.lt_of_lt_of_le q2 hs)).trans (hk k q1 q2))

set_option maxRecDepth 100000 in
set_option maxHeartbeats 8000000 in
theorem example_any (w : World) : Calls Tryz.prog 26 #[] w fun e w' => ∃ g c, e = .returned (.agg (tab0 g c)) ∧ Labs w' w'.heap.size (some ⟨g, 0, none⟩) exL ∧ Below w.heap.size w w' := by
  have HN := Lib.hid (fun W => new_V W)
  have HC := Lib.hid (fun W b c h => create_zero W W.heap.size b c h (Nat.le_refl _))
  have HB1 := Lib.hid (box_below w #[.string ⟨#[]⟩, .int .i64 0, .slice none 0 0] 24)
  have HR1 := Lib.hid (heap_alloc_new w (.cells #[.string ⟨#[]⟩, .int .i64 0, .slice none 0 0] 24))
  go_enter Tryz.func26, Tryz.ntmps26
  go_wp2_with fail
  refine (HN.out _).mono ?_
  rintro e w2 ⟨b, cap, rfl, hz, hb2⟩
  have HB2 := Lib.hid (HB1.out.trans (hb2.mono HB1.out.size))
  have hr2 := (hb2.block w.heap.size (lt_of_block HR1.out)).trans HR1.out
  obtain ⟨W3, hW3⟩ : ∃ W3, W3 = (w2.alloc (.cells #[.string ⟨#[]⟩, .int .i64 0, .slice none 0 0] 24)).setRow w2.heap.size (tab0 b cap) := ⟨_, rfl⟩
  have st3 := storeTab_at (cs := tab0 b cap) (heap_alloc_new w2 (.cells #[.string ⟨#[]⟩, .int .i64 0, .slice none 0 0] 24)) rfl rfl (by simp [Value.oneCell'])
  have hg3 : W3.heap[w2.heap.size]? = some (.cells (tab0 b cap) 24 (0, 0)) := by rw [hW3]; exact setRow_heap _ _ _ _ _ _ (heap_alloc_new _ _)
  have hb23 : Below w2.heap.size w2 W3 := by rw [hW3]; exact Below.setRow (box_below _ _ _) (Nat.le_refl _) _
  have HZ3 := Lib.hid ((hz.below hb23).mono hb23.size)
  have HB3 := Lib.hid (HB2.out.trans (hb23.mono HB2.out.size))
  have HR3 := Lib.hid ((hb23.block w.heap.size (lt_of_block hr2)).trans hr2)
  have HG3 := Lib.hid hg3
  have HWS := Lib.hid (show w.heap.size < w2.heap.size from lt_of_block hr2)
  rw [← hW3] at st3
  have dl3 := loadTab_at hg3 rfl
  simp only [tab0] at st3 dl3
  clear hz hb2 hr2 hW3 hg3 hb23
  generalize hgb : w2.heap.size = gb at *
  go_wp2_with fail
  refine (HC.out _ _ _ HZ3.out).mono ?_
  rintro e w4 ⟨g, c, rfl, hex, hb4⟩
  have hg4 := (hb4.block gb (lt_of_block HG3.out)).trans HG3.out
  have hr4 := (hb4.block w.heap.size (lt_of_block HR3.out)).trans HR3.out
  have HB4 := Lib.hid (HB3.out.trans (hb4.mono HB3.out.size))
  have hgl : gb < W3.heap.size := lt_of_block HG3.out
  have st4 := storeTab_at (cs := tab0 g c) hg4 rfl rfl (by simp [Value.oneCell'])
  have hg5 := setRow_heap w4 _ _ (tab0 g c) _ _ hg4
  have hr5 := (setRow_other w4 gb w.heap.size (tab0 g c) (Nat.ne_of_lt HWS.out)).trans hr4
  have dl5 := loadTab_at hg5 rfl
  have st5 := storeTab_at (cs := tab0 g c) hr5 rfl rfl (by simp [Value.oneCell'])
  have HG6 := Lib.hid (setRow_heap (w4.setRow gb (tab0 g c)) _ _ (tab0 g c) _ _ hr5)
  have HEX := Lib.hid (show Labs ((w4.setRow gb (tab0 g c)).setRow w.heap.size (tab0 g c)) ((w4.setRow gb (tab0 g c)).setRow w.heap.size (tab0 g c)).heap.size (some ⟨g, 0, none⟩) exL from
    hex _ (by simp) (fun k h1 h2 => (setRow_other _ _ _ _ (by have := HWS.out; omega)).trans (setRow_other _ _ _ _ (by omega))))
  have HB6 := Lib.hid (Below.setRow (Below.setRow HB4.out (Nat.le_of_lt HWS.out) (tab0 g c)) (Nat.le_refl _) (tab0 g c))
  simp only [tab0] at st4 dl5 st5
  clear hex hb4 hg4 hr4 hg5 hr5 dl3 st3
  go_wp2_with fail
  refine ret_tab (cs := tab0 g c) rfl rfl rfl rfl HG6.out ?_
  exact ⟨g, c, rfl, HEX.out, HB6.out⟩

end Go.Proofs.YtcidbmldbikknaaGreatDoor

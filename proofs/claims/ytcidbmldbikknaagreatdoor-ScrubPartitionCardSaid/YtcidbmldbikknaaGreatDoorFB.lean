/-
  Walks: a new table of three empty labels, by the reference; the law's example. No condition.
  Walk: the law's example. No condition.
-/
import Derived.Test.YtcidbmldbikknaaGreatDoorF10
import Derived.Test.YtcidbmldbikknaaGreatDoorE23
namespace Go.Proofs.YtcidbmldbikknaaGreatDoor

section
open Go.RowKit Go.Sort
attribute [local go_sem ↓] loadRn_down storeRn_down loadLab_down storeLab_down loadTab_down storeTab_down storeRef_down

/-- Empty labels, cell by cell. -/
def zR : Nat → List Value
  | 0 => []
  | j + 1 => zR j ++ zer5
theorem zR_len : ∀ j, (zR j).length = j * 5
  | 0 => rfl
  | j + 1 => by simp [zR, zR_len j, zer5]; omega
theorem zer_of_row {w : World} {base g c : Nat} (h : w.ownsRow base 43 5 (.slice (some ⟨g, 0, none⟩) 3 c) 3 (zR 3)) (hg : g < w.heap.size) : Zer w w.heap.size g := by
  have gt : ∀ j, j < 15 → w.cell? ⟨g, j, none⟩ = (zR 3)[j]? := fun j hj => h.cellAt j (by omega)
  refine ⟨hg, fun i hi => ?_, fun i hi => ?_, fun i hi => ?_, fun i hi => ?_, fun i hi => ?_⟩ <;>
    (rw [gt _ (by omega)]; rcases (show i = 0 ∨ i = 1 ∨ i = 2 by omega) with rfl | rfl | rfl <;> rfl)

set_option maxRecDepth 100000 in
set_option maxHeartbeats 8000000 in
theorem new_V (w : World) : Calls Tryz.prog 54 #[.string ⟨#[86]⟩, .int .i64 16] w fun e w' => ∃ g c, e = .returned (.tuple #[.agg (tab0 g c), .int .i64 0]) ∧ Zer w' w'.heap.size g ∧ Below w.heap.size w w' := by
  obtain ⟨i0, hi0, hz0, hz1, hz2⟩ := info_parts infoL
  have HV := Lib.hid (fun W => validname_V W)
  have HTT := Lib.hid (fun W => show Calls Tryz.prog 23 #[.int .i64 16] W fun e w' => e = .returned (.int .i64 4) ∧ w' = W from (rtabletracks_any 16 W).mono fun e w' ⟨q1, q2⟩ => ⟨q1, q2.symm⟩)
  have HSL := Lib.hid (fun W => slots_16 W)
  obtain ⟨W1, hW1⟩ : ∃ W1, W1 = (w.alloc (.cells #[.string ⟨#[]⟩, .int .i64 0, .slice none 0 0] 24)).alloc (.cells #[.string ⟨#[]⟩, .int .i64 0, .slice none 0 0] 24) := ⟨_, rfl⟩
  have hb1 : Below w.heap.size w W1 := by rw [hW1]; exact two_below w _ _ _ _
  have hs1 : W1.heap.size = w.heap.size + 1 + 1 := by rw [hW1]; simp
  have hr1 : W1.heap[w.heap.size + 1]? = some (.cells #[.string ⟨#[]⟩, .int .i64 0, .slice none 0 0] 24 (0, 0)) := by rw [hW1]; exact two_new w _ _ _ _
  have hd1 : W1.heap[w.heap.size]? = some (.cells #[.string ⟨#[]⟩, .int .i64 0, .slice none 0 0] 24 (0, 0)) := by rw [hW1, halloc _ _ (by simp)]; exact heap_alloc_new w _
  have st1 := storeTab_at (cs := #[.string ⟨#[86]⟩, .int .i64 16, .slice none 0 0]) hr1 rfl rfl (by simp [Value.oneCell'])
  have hg2 := setRow_heap W1 _ _ #[.string ⟨#[86]⟩, .int .i64 16, .slice none 0 0] _ _ hr1
  have hd2 := (setRow_other W1 (w.heap.size + 1) w.heap.size #[.string ⟨#[86]⟩, .int .i64 16, .slice none 0 0] (by omega)).trans hd1
  have hb2 := Below.setRow hb1 (show w.heap.size ≤ w.heap.size + 1 by omega) #[.string ⟨#[86]⟩, .int .i64 16, .slice none 0 0]
  have hs2 : (W1.setRow (w.heap.size + 1) #[.string ⟨#[86]⟩, .int .i64 16, .slice none 0 0]).heap.size = w.heap.size + 1 + 1 := by simpa using hs1
  rw [hW1] at st1 hg2 hd2 hb2 hs2
  have HG2 := Lib.hid hg2
  have HD2 := Lib.hid hd2
  have HB2 := Lib.hid hb2
  have HS2 := Lib.hid hs2
  clear hW1 hb1 hs1 hr1 hd1 hg2 hd2 hb2 hs2
  go_enter Tryz.func54, Tryz.ntmps54
  go_wp2_with fail
  refine (HV.out _).mono ?_
  rintro e _ ⟨rfl, rfl⟩
  go_wp2_with fail
  refine (HTT.out _).mono ?_
  rintro e _ ⟨rfl, rfl⟩
  go_wp2_with fail
  clear st1
  go_loopw [7] (fun k wr => ∃ (j : Nat) (v : Value), j ≤ 3 ∧ k = .int .i64 j ∧ wr.heap[w.heap.size + 1]? = some (.cells #[.string ⟨#[86]⟩, .int .i64 16, v] 24 (0, 0)) ∧ wr.heap[w.heap.size]? = some (.cells #[.string ⟨#[]⟩, .int .i64 0, .slice none 0 0] 24 (0, 0)) ∧ wr.ownsRow (w.heap.size + 1 + 1) 43 5 v j (zR j) ∧ w.heap.size + 1 + 1 ≤ wr.heap.size ∧ Below w.heap.size w wr) (fun k _ => 3 - (intOf k).toNat)
  case atStart => exact ⟨0, _, by omega, rfl, HG2.out, HD2.out, own_nil _ _ _ _, Nat.le_of_eq HS2.out.symm, HB2.out⟩
  case round =>
    clear HG2 HD2 HB2 HS2
    obtain ⟨j, v, hj, rfl, hg, hd, ho, hs, hb⟩ := hrel
    have HO := Lib.hid ho
    have HB := Lib.hid hb
    have HG := Lib.hid hg
    have HD := Lib.hid hd
    have HS := Lib.hid hs
    obtain ⟨oa, oc, rfl⟩ := row_slice ho
    have u2 := cell_at (i := 2) (v := .slice oa j oc) hg rfl
    have dl := loadTab_at hg rfl
    clear hg hd hb hs
    go_wp2_with fail
    refine (HSL.out _).mono ?_
    rintro e wr ⟨rfl, rfl⟩
    by_cases hlt : j < 3
    · have hltI : (j : Int) < 3 := by omega
      clear dl
      go_wp2_with (refine wpList_append_own _ rfl _ _ 22 rfl (w.heap.size + 1 + 1) 43 i0 (.agg #[.int .i64 0, .int .i64 0, .string ⟨#[]⟩, .string ⟨#[]⟩, .slice none 0 0]) 5 72 Tryz.underlying22 hi0 hz0 hz1 hz2 rfl (by decide) _ _ _ rfl (ho.alloc _) _ 1 1 zer5 rfl rfl ?b1 ?b2 ?b3 ?b4 ?b5 ?_)
      try (case b1 => exact news_at (cs := #[.int .i64 0, .int .i64 0, .string ⟨#[]⟩, .string ⟨#[]⟩, .slice none 0 0]) (heap_alloc_new _ _))
      try (case b2 => simp [zer5, Value.oneCell'])
      try (case b3 => unfold maxLen; omega)
      try (case b4 => omega)
      try (case b5 => have := HS.out; simp; omega)
      intro v6 w6 ho6 hg6 _
      obtain ⟨a6, c6, rfl⟩ := row_slice ho6
      have hgA := (halloc wr (.cells #[.int .i64 0, .int .i64 0, .string ⟨#[]⟩, .string ⟨#[]⟩, .slice none 0 0] 43) (lt_of_block HG.out)).trans HG.out
      have hdA := (halloc wr (.cells #[.int .i64 0, .int .i64 0, .string ⟨#[]⟩, .string ⟨#[]⟩, .slice none 0 0] 43) (lt_of_block HD.out)).trans HD.out
      have hgB := (hg6.block (w.heap.size + 1) (lt_of_block hgA) (fun e => by have := row_own HO.out e.symm; omega)).trans hgA
      have hdB := (hg6.block w.heap.size (lt_of_block hdA) (fun e => by have := row_own HO.out e.symm; omega)).trans hdA
      have hb6 : Below w.heap.size w w6 := (HB.out.alloc HB.out.size _).grown hg6 (HB.out.alloc HB.out.size _).size (fun k hk => by have := row_own HO.out hk; omega)
      have hs6 : w.heap.size + 1 + 1 ≤ w6.heap.size := Nat.le_trans HS.out (Nat.le_trans (by simp) hg6.size)
      have u6 := cell_at (i := 2) (v := .slice oa j oc) hgB rfl
      have z6 := free_at hgB 2
      have HG7 := Lib.hid (show (w6.setCell ⟨w.heap.size + 1, 2, none⟩ (.slice a6 (j + 1) c6)).heap[w.heap.size + 1]? = some (.cells #[.string ⟨#[86]⟩, .int .i64 16, .slice a6 (j + 1) c6] 24 (0, 0)) from cell_row_any _ _ _ _ _ _ _ hgB)
      have HD7 := Lib.hid ((Only.setCell (Only.refl [w.heap.size + 1] w6) (p := ⟨w.heap.size + 1, 2, none⟩) (by simp) (.slice a6 (j + 1) c6)).heap hdB (by simp))
      have HO7 := Lib.hid (show (w6.setCell ⟨w.heap.size + 1, 2, none⟩ (.slice a6 (j + 1) c6)).ownsRow (w.heap.size + 1 + 1) 43 5 (.slice a6 (j + 1) c6) (j + 1) (zR (j + 1)) from own_setCell ho6 (by omega) (.slice a6 (j + 1) c6))
      have HB7 := Lib.hid (Below.setCell hb6 (p := ⟨w.heap.size + 1, 2, none⟩) (by simp) (.slice a6 (j + 1) c6))
      have HS7 := Lib.hid (show w.heap.size + 1 + 1 ≤ (w6.setCell ⟨w.heap.size + 1, 2, none⟩ (.slice a6 (j + 1) c6)).heap.size by simpa using hs6)
      clear hgA hdA hgB hdB hb6 hs6 ho6 hg6 u2 ho
      go_wp2_with fail
      go_roundw
      case rel => exact ⟨j + 1, _, by omega, by go_num, HG7.out, HD7.out, HO7.out, HS7.out, HB7.out⟩
      case measure => simp [intOf]; omega
    · obtain rfl : j = 3 := by omega
      have hltI : ¬ ((3 : Nat) : Int) < 3 := by omega
      obtain ⟨g, c, hfm⟩ := ho.form (by omega)
      obtain ⟨⟨rfl, rfl⟩, hg1, hg2⟩ : (oa = some ⟨g, 0, none⟩ ∧ oc = c) ∧ w.heap.size + 1 + 1 ≤ g ∧ g < wr.heap.size := by simpa using hfm
      have st := storeTab_at (cs := #[.string ⟨#[86]⟩, .int .i64 16, .slice (some ⟨g, 0, none⟩) 3 oc]) HD.out rfl rfl (by simp [Value.oneCell'])
      have HGS := Lib.hid (setRow_heap wr _ _ (tab0 g oc) _ _ HD.out)
      have hz := zer_of_row ho hg2
      have HZ := Lib.hid (show Zer (wr.setRow w.heap.size (tab0 g oc)) (wr.setRow w.heap.size (tab0 g oc)).heap.size g from
        ⟨by simpa using hg2, fun i hi => (cell_setRow_other _ _ _ _ (by show g ≠ _; omega)).trans (hz.c0 i hi), fun i hi => (cell_setRow_other _ _ _ _ (by show g ≠ _; omega)).trans (hz.c1 i hi), fun i hi => (cell_setRow_other _ _ _ _ (by show g ≠ _; omega)).trans (hz.c2 i hi), fun i hi => (cell_setRow_other _ _ _ _ (by show g ≠ _; omega)).trans (hz.c3 i hi), fun i hi => (cell_setRow_other _ _ _ _ (by show g ≠ _; omega)).trans (hz.c4 i hi)⟩)
      have HBS := Lib.hid (Below.setRow HB.out (Nat.le_refl _) (tab0 g oc))
      clear hz hfm hg1 hg2 ho
      go_wp2_with fail
      refine ret_tab2 (cs := tab0 g oc) rfl rfl rfl rfl rfl HGS.out ?_
      exact ⟨g, oc, rfl, HZ.out, HBS.out⟩
end

section
open Go.RowKit Go.Sort
attribute [local go_sem ↓] loadRn_down storeRn_down loadLab_down storeLab_down loadTab_down storeTab_down storeRef_down

theorem ExAt.keep {lo : Nat} {w W : World} {g : Nat} (h : ExAt lo w g) (hs : w.heap.size ≤ W.heap.size) (hk : ∀ k, lo ≤ k → k < w.heap.size → W.heap[k]? = w.heap[k]?) : ExAt lo W g :=
  fun W' h1 h2 => h W' (Nat.le_trans hs h1) (fun k q1 q2 => (h2 k q1 (Nat.lt_of_lt_of_le q2 hs)).trans (hk k q1 q2))

set_option maxRecDepth 100000 in
set_option maxHeartbeats 8000000 in
theorem example_any (w : World) : Calls Tryz.prog 26 #[] w fun e w' => ∃ g c, e = .returned (.agg (tab0 g c)) ∧ Labs w' w'.heap.size (some ⟨g, 0, none⟩) exL ∧ Below w.heap.size w w' := by
  have HN := Lib.hid (fun W => new_V W)
  have HC := Lib.hid (fun W b c h => create_zero W W.heap.size b c h (Nat.le_refl _))
  have HB1 := Lib.hid (box_below w #[.string ⟨#[]⟩, .int .i64 0, .slice none 0 0] 24)
  have HR1 := Lib.hid (heap_alloc_new w (.cells #[.string ⟨#[]⟩, .int .i64 0, .slice none 0 0] 24))
  go_enter Tryz.func26, Tryz.ntmps26
  go_wp2_with fail
  refine (HN.out _).mono ?_
  rintro e w2 ⟨b, cap, rfl, hz, hb2⟩
  have HB2 := Lib.hid (HB1.out.trans (hb2.mono HB1.out.size))
  have hr2 := (hb2.block w.heap.size (lt_of_block HR1.out)).trans HR1.out
  obtain ⟨W3, hW3⟩ : ∃ W3, W3 = (w2.alloc (.cells #[.string ⟨#[]⟩, .int .i64 0, .slice none 0 0] 24)).setRow w2.heap.size (tab0 b cap) := ⟨_, rfl⟩
  have st3 := storeTab_at (cs := tab0 b cap) (heap_alloc_new w2 (.cells #[.string ⟨#[]⟩, .int .i64 0, .slice none 0 0] 24)) rfl rfl (by simp [Value.oneCell'])
  have hg3 : W3.heap[w2.heap.size]? = some (.cells (tab0 b cap) 24 (0, 0)) := by rw [hW3]; exact setRow_heap _ _ _ _ _ _ (heap_alloc_new _ _)
  have hb23 : Below w2.heap.size w2 W3 := by rw [hW3]; exact Below.setRow (box_below _ _ _) (Nat.le_refl _) _
  have HZ3 := Lib.hid ((hz.below hb23).mono hb23.size)
  have HB3 := Lib.hid (HB2.out.trans (hb23.mono HB2.out.size))
  have HR3 := Lib.hid ((hb23.block w.heap.size (lt_of_block hr2)).trans hr2)
  have HG3 := Lib.hid hg3
  have HWS := Lib.hid (show w.heap.size < w2.heap.size from lt_of_block hr2)
  rw [← hW3] at st3
  have dl3 := loadTab_at hg3 rfl
  simp only [tab0] at st3 dl3
  clear hz hb2 hr2 hW3 hg3 hb23
  generalize hgb : w2.heap.size = gb at *
  go_wp2_with fail
  refine (HC.out _ _ _ HZ3.out).mono ?_
  rintro e w4 ⟨g, c, rfl, hex, hb4⟩
  have hg4 := (hb4.block gb (lt_of_block HG3.out)).trans HG3.out
  have hr4 := (hb4.block w.heap.size (lt_of_block HR3.out)).trans HR3.out
  have HB4 := Lib.hid (HB3.out.trans (hb4.mono HB3.out.size))
  have hgl : gb < W3.heap.size := lt_of_block HG3.out
  have st4 := storeTab_at (cs := tab0 g c) hg4 rfl rfl (by simp [Value.oneCell'])
  have hg5 := setRow_heap w4 _ _ (tab0 g c) _ _ hg4
  have hr5 := (setRow_other w4 gb w.heap.size (tab0 g c) (Nat.ne_of_lt HWS.out)).trans hr4
  have dl5 := loadTab_at hg5 rfl
  have st5 := storeTab_at (cs := tab0 g c) hr5 rfl rfl (by simp [Value.oneCell'])
  have HG6 := Lib.hid (setRow_heap (w4.setRow gb (tab0 g c)) _ _ (tab0 g c) _ _ hr5)
  have HEX := Lib.hid (show Labs ((w4.setRow gb (tab0 g c)).setRow w.heap.size (tab0 g c)) ((w4.setRow gb (tab0 g c)).setRow w.heap.size (tab0 g c)).heap.size (some ⟨g, 0, none⟩) exL from
    hex _ (by simp) (fun k h1 h2 => (setRow_other _ _ _ _ (by have := HWS.out; omega)).trans (setRow_other _ _ _ _ (by omega))))
  have HB6 := Lib.hid (Below.setRow (Below.setRow HB4.out (Nat.le_of_lt HWS.out) (tab0 g c)) (Nat.le_refl _) (tab0 g c))
  simp only [tab0] at st4 dl5 st5
  clear hex hb4 hg4 hr4 hg5 hr5 dl3 st3
  go_wp2_with fail
  refine ret_tab (cs := tab0 g c) rfl rfl rfl rfl HG6.out ?_
  exact ⟨g, c, rfl, HEX.out, HB6.out⟩
end

end Go.Proofs.YtcidbmldbikknaaGreatDoor

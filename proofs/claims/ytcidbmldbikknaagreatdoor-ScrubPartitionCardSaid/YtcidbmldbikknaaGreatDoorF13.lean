/-
  Walk: the law's start (awake). Condition: the library's table lies in memory.
-/
import Derived.Test.YtcidbmldbikknaaGreatDoorFB
import Derived.Test.YtcidbmldbikknaaGreatDoorE27
namespace Go.Proofs.YtcidbmldbikknaaGreatDoor
open Go.RowKit Go.Sort
attribute [local go_sem ↓] loadRn_down storeRn_down loadLab_down storeLab_down loadTab_down storeTab_down storeRef_down loadRef_down loadSc_down storeSc_down

theorem TabB.mono {B B' : Nat} {w : World} (h : TabB B w) (hB : B ≤ B') : TabB B' w := fun w' hb => h w' (hb.mono hB)
theorem ex_free : freeN 16 exL = 9 := by decide +kernel
theorem ex_used : usedN 16 exL = 3 := by decide +kernel
theorem ex_tent : tentP exL = [(5, 1)] := by
  have : refsU exL = [(5, 1)] := by decide +kernel
  unfold tentP refsP sortR
  rw [this]
  simp [tentR]
theorem ex_shared : sharedP exL = [] := by decide +kernel
theorem ex_owner : ownerP exL 41 = some (5, 1, 9) := by decide +kernel
theorem ex_lines : (linesP 9 3 [(5, 1)] [] []).length = 3 := rfl

set_option maxRecDepth 100000 in
set_option maxHeartbeats 4000000 in
theorem awake_any (w : World) (B : Nat) (htab : TabB B w) (hB : B ≤ w.heap.size) : Calls Tryz.prog 6 #[] w fun e w' => e = .returned (.bool true) ∧ Below w.heap.size w w' := by
  have HT := Lib.hid htab
  have HEX := Lib.hid (fun W => example_any W)
  have HTA := Lib.hid (fun W a c (h : Labs W W.heap.size a exL) => show Calls Tryz.prog 10 #[.agg (tabC [86] 16 a 3 c)] W fun e w' => ∃ V2 V3, e = .returned (.agg #[.int .i64 9, .int .i64 3, V2, V3, .slice none 0 0]) ∧
      w'.ownsRow W.heap.size 40 2 V2 1 (refsF [(5, 1)]) ∧ w'.ownsRow W.heap.size 3 1 V3 0 [] ∧ Below W.heap.size W w' by
    have := table_any W W.heap.size a c [86] 16 exL h (Nat.le_refl _) (by decide) (by decide)
    rw [ex_free, ex_used, ex_tent, ex_shared] at this
    exact this)
  have HOW := Lib.hid (fun W a c (h : Labs W W.heap.size a exL) => show Calls Tryz.prog 20 #[.agg (tabC [86] 16 a 3 c), .int .i64 41] W fun e w' => e = .returned (.tuple #[.agg #[.int .i64 5, .int .i64 1], .int .i64 9, .bool true]) ∧ Below W.heap.size W w' by
    have := sowner_any W W.heap.size a c [86] 16 exL 41 h (Nat.le_refl _) (by decide) (by decide) ⟨by decide, by decide⟩
    rw [ex_owner] at this
    exact this)
  clear htab
  go_enter Tryz.func6, Tryz.ntmps6
  go_wp2_with fail
  refine (HEX.out _).mono ?_
  rintro e w1 ⟨g, c, rfl, hL, hb1⟩
  have HB1 := Lib.hid hb1
  have HL1 := Lib.hid hL
  clear hL hb1
  go_wp2_with fail
  refine (HTA.out _ _ _ HL1.out).mono ?_
  rintro e w2 ⟨V2, V3, rfl, hV2, hV3, hb2⟩
  obtain ⟨ta, tc, he, hR⟩ := runs_of_row (l := [(5, 1)]) hV2 (fun r hr => by obtain rfl : r = (5, 1) := (by simpa using hr); exact ⟨by unfold okI; simp, by unfold okI; simp⟩)
  subst he
  obtain ⟨sa, sc, rfl⟩ := int_slice hV3
  have HB2 := Lib.hid (HB1.out.trans (hb2.mono HB1.out.size))
  have HR2 := Lib.hid hR
  obtain ⟨W3, hW3⟩ : ∃ W3, W3 = (w2.alloc (.cells #[.int .i64 0, .int .i64 0, .slice none 0 0, .slice none 0 0, .slice none 0 0] 29)).setRow w2.heap.size (scC 9 3 ta 1 tc sa 0 sc none 0 0) := ⟨_, rfl⟩
  have st3 := storeSc_at (cs := scC 9 3 ta 1 tc sa 0 sc none 0 0) (heap_alloc_new w2 (.cells #[.int .i64 0, .int .i64 0, .slice none 0 0, .slice none 0 0, .slice none 0 0] 29)) rfl rfl (by simp [Value.oneCell'])
  have hg3 : W3.heap[w2.heap.size]? = some (.cells (scC 9 3 ta 1 tc sa 0 sc none 0 0) 29 (0, 0)) := by rw [hW3]; exact setRow_heap _ _ _ _ _ _ (heap_alloc_new _ _)
  have hb23 : Below w2.heap.size w2 W3 := by rw [hW3]; exact Below.setRow (box_below _ _ _) (Nat.le_refl _) _
  have HG3 := Lib.hid hg3
  have HR3 := Lib.hid (hR.below hb23)
  have HB3 := Lib.hid (HB2.out.trans (hb23.mono HB2.out.size))
  have HS3 := Lib.hid (show w2.heap.size ≤ W3.heap.size from hb23.size)
  rw [← hW3] at st3
  simp only [scC] at st3
  clear hV2 hV3 hb2 hR hW3 hg3 hb23
  generalize hgb : w2.heap.size = gb at *
  go_wp2_with fail
  refine (HEX.out _).mono ?_
  rintro e w4 ⟨g4, c4, rfl, hL, hb4⟩
  have HB4 := Lib.hid (HB3.out.trans (hb4.mono HB3.out.size))
  have HL4 := Lib.hid hL
  have HG4 := Lib.hid ((hb4.block gb (lt_of_block HG3.out)).trans HG3.out)
  have HR4 := Lib.hid (HR3.out.below (hb4.mono HS3.out))
  clear hL hb4 st3
  go_wp2_with fail
  refine (HOW.out _ _ _ HL4.out).mono ?_
  rintro e w5 ⟨rfl, hb5⟩
  have HB5 := Lib.hid (HB4.out.trans (hb5.mono HB4.out.size))
  have HG5 := Lib.hid ((hb5.block gb (lt_of_block HG4.out)).trans HG4.out)
  have HR5 := Lib.hid (HR4.out.below (hb5.mono (Nat.le_of_lt (lt_of_block HG4.out))))
  obtain ⟨W6, hW6⟩ : ∃ W6, W6 = (w5.alloc (.cells #[.int .i64 0, .int .i64 0] 40)).setRow w5.heap.size #[.int .i64 5, .int .i64 1] := ⟨_, rfl⟩
  have st6 := storeRef_at (cs := #[.int .i64 5, .int .i64 1]) (heap_alloc_new w5 (.cells #[.int .i64 0, .int .i64 0] 40)) rfl rfl (by simp [Value.oneCell'])
  have hg6 : W6.heap[w5.heap.size]? = some (.cells #[.int .i64 5, .int .i64 1] 40 (0, 0)) := by rw [hW6]; exact setRow_heap _ _ _ _ _ _ (heap_alloc_new _ _)
  have hb56 : Below w5.heap.size w5 W6 := by rw [hW6]; exact Below.setRow (box_below _ _ _) (Nat.le_refl _) _
  have hgs := (hb56.block gb (lt_of_block HG5.out)).trans HG5.out
  have HG6 := Lib.hid hgs
  have HB6 := Lib.hid (HB5.out.trans (hb56.mono HB5.out.size))
  have HR6 := Lib.hid (HR5.out.below (hb56.mono (Nat.le_of_lt (lt_of_block HG5.out))))
  rw [← hW6] at st6
  have dr := loadRef_at hg6 rfl
  have dsc := loadSc_at hgs rfl
  have u0 := cell_at (i := 0) (v := .int .i64 9) hgs rfl
  have u1 := cell_at (i := 1) (v := .int .i64 3) hgs rfl
  have u2 := cell_at (i := 2) (v := .slice ta 1 tc) hgs rfl
  simp only [scC] at dsc
  clear hb5 hW6 hg6 hb56 hgs
  have HCL := Lib.hid (fun W => clean_any 9 3 ta 1 tc sa 0 sc none 0 0 W (by decide) (by decide))
  have HLN := Lib.hid (fun W (h1 : Below w.heap.size w W) (h2 : Runs W gb ta [(5, 1)]) (h3 : gb ≤ W.heap.size) => lines_any W W.heap.size 9 3 ta tc sa sc none 0 [(5, 1)] [] [] ⟨by decide, by decide⟩ ⟨by decide, by decide⟩ (h2.mono h3) ⟨fun h => absurd rfl h⟩ (bads_nil _ _ _) (fun k hk => by cases hk) (Nat.le_refl _) ((HT.out.on (h1.mono hB)).mono (Nat.le_trans hB h1.size)) (by decide) (by decide) (by decide))
  simp only [scC] at HCL HLN
  go_wp2_with fail
  refine (HCL.out _).mono ?_
  rintro e w7 ⟨rfl, hb7⟩
  have HB7 := Lib.hid (HB6.out.trans (hb7.mono HB6.out.size))
  have hg7 := (hb7.block gb (lt_of_block HG6.out)).trans HG6.out
  have HR7 := Lib.hid (HR6.out.below (hb7.mono (Nat.le_of_lt (lt_of_block HG6.out))))
  have HGB := Lib.hid (Nat.le_of_lt (lt_of_block hg7))
  have ds7 := loadSc_at hg7 rfl
  simp only [scC] at ds7
  have HLL := Lib.hid (show Calls Tryz.prog 27 #[.agg #[.int .i64 9, .int .i64 3, .slice ta 1 tc, .slice sa 0 sc, .slice none 0 0]] w7 fun e w' => ∃ v, e = .returned v ∧ w'.ownsRow w7.heap.size 9 1 v 3 ((linesP 9 3 [(5, 1)] [] []).map sv) ∧ Below w7.heap.size w7 w' from HLN.out w7 HB7.out HR7.out HGB.out)
  clear hb7 hg7 dsc dr u0 u1 u2
  simp only [decide_true, Bool.and_self]
  go_wp2_with fail
  refine HLL.out.mono ?_
  rintro e w8 ⟨v, rfl, hO, hb8⟩
  obtain ⟨ra, rc, rfl⟩ := int_slice hO
  have HB8 := Lib.hid (HB7.out.trans (hb8.mono HB7.out.size))
  clear hO hb8
  go_wp2_with fail
  go_ret
  exact ⟨rfl, HB8.out⟩

end Go.Proofs.YtcidbmldbikknaaGreatDoor

/-
  Walks: the table of three empty labels is valid and uses no track, by the reference. Condition: the table lies in memory.
-/
import Derived.Test.YtcidbmldbikknaaGreatDoorF5
import Derived.Test.YtcidbmldbikknaaGreatDoorE18
import Derived.Laws.AppendOwnNone
import Derived.Deep.QuietTactic
import Derived.BigQuiet
namespace Go.Proofs.YtcidbmldbikknaaGreatDoor
open Go.RowKit Go.Sort
attribute [local go_sem ↓] loadRn_down storeRn_down loadLab_down storeLab_down loadTab_down

/-- Three empty labels in cells below a block. -/
structure Zer (w : World) (B : Nat) (b : Nat) : Prop where
  lt : b < B
  c0 : ∀ i < 3, w.cell? ⟨b, i * 5, none⟩ = some (.int .i64 0)
  c1 : ∀ i < 3, w.cell? ⟨b, i * 5 + 1, none⟩ = some (.int .i64 0)
  c2 : ∀ i < 3, w.cell? ⟨b, i * 5 + 2, none⟩ = some (.string ⟨#[]⟩)
  c3 : ∀ i < 3, w.cell? ⟨b, i * 5 + 3, none⟩ = some (.string ⟨#[]⟩)
  c4 : ∀ i < 3, w.cell? ⟨b, i * 5 + 4, none⟩ = some (.slice none 0 0)
theorem Zer.below {w w' : World} {B b : Nat} (h : Zer w B b) (hb : Below B w w') : Zer w' B b :=
  ⟨h.lt, fun i hi => (hb.cell (p := ⟨b, i * 5, none⟩) h.lt).trans (h.c0 i hi), fun i hi => (hb.cell (p := ⟨b, i * 5 + 1, none⟩) h.lt).trans (h.c1 i hi), fun i hi => (hb.cell (p := ⟨b, i * 5 + 2, none⟩) h.lt).trans (h.c2 i hi), fun i hi => (hb.cell (p := ⟨b, i * 5 + 3, none⟩) h.lt).trans (h.c3 i hi), fun i hi => (hb.cell (p := ⟨b, i * 5 + 4, none⟩) h.lt).trans (h.c4 i hi)⟩
theorem Zer.mono {w : World} {B B' b : Nat} (h : Zer w B b) (hB : B ≤ B') : Zer w B' b := ⟨Nat.lt_of_lt_of_le h.lt hB, h.c0, h.c1, h.c2, h.c3, h.c4⟩

set_option maxRecDepth 100000 in
set_option maxHeartbeats 4000000 in
theorem used_zero (w : World) (B b cap : Nat) (nm : By) (tr : Int) (h : Zer w B b) (hB : B ≤ w.heap.size) :
    Calls Tryz.prog 107 #[.agg (tabC nm tr (some ⟨b, 0, none⟩) 3 cap)] w fun e w' => ∃ ra rc, e = .returned (.slice ra 0 rc) ∧ Below w.heap.size w w' := by
  obtain ⟨i0, hi0, hz0, hz1, hz2⟩ := info_parts infoRn
  obtain ⟨W0, hW0⟩ : ∃ W0, W0 = w.alloc (.cells (tabC nm tr (some ⟨b, 0, none⟩) 3 cap) 24) := ⟨_, rfl⟩
  have HBW := Lib.hid (show Below w.heap.size w W0 by rw [hW0]; exact box_below w _ _)
  have hd0 : W0.heap[w.heap.size]? = some (.cells (tabC nm tr (some ⟨b, 0, none⟩) 3 cap) 24 (0, 0)) := by rw [hW0]; exact heap_alloc_new w _
  have HD0 := Lib.hid hd0
  have hs0 : W0.heap.size = w.heap.size + 1 := by rw [hW0]; simp
  have ho0 : (W0.alloc (.cells #[] 68)).ownsRow W0.heap.size 68 2 (.slice (some ⟨W0.heap.size, 0, none⟩) 0 0) 0 [] := World.ownsRow_lit W0 #[] 0 (Nat.le_refl _) (by simp [maxLen]) rfl
  rw [hs0] at ho0
  have HO0 := Lib.hid (own_mono ho0 (Nat.le_succ _))
  have HB0 := Lib.hid (box_below W0 #[] 68)
  have HZ := Lib.hid h
  have HW0 := Lib.hid hW0
  clear h hW0 hd0 ho0 hs0
  go_enter Tryz.func107, Tryz.ntmps107
  go_wp2_with fail
  rw [← HW0.out]
  go_loopw [3, 4] (fun v k wr => ∃ j : Nat, j ≤ 3 ∧ k = .int .i64 j ∧ Below W0.heap.size W0 wr ∧ wr.ownsRow w.heap.size 68 2 v 0 []) (fun _ k _ => 3 - (intOf k).toNat)
  case atStart => exact ⟨0, by omega, rfl, HB0.out, HO0.out⟩
  case round =>
    clear HB0 HO0
    obtain ⟨j, hj, rfl, hb, ho⟩ := hrel
    have HB := Lib.hid hb
    have HO := Lib.hid ho
    have hd := (hb.block w.heap.size (lt_of_block HD0.out)).trans HD0.out
    have t2 := cell_at (i := 2) (v := .slice (some ⟨b, 0, none⟩) 3 cap) hd rfl
    obtain ⟨oa, oc, rfl⟩ := row_slice ho
    have hz := HZ.out.below (((HBW.out.trans (hb.mono HBW.out.size))).mono hB)
    clear hb hd
    by_cases hlt : j < 3
    · have hltI : (j : Int) < 3 := by omega
      have x4 := hz.c4 j hlt
      clear hz
      go_wp2_with (refine wpList_append_own_none rfl _ _ 41 rfl w.heap.size 68 i0 2 Tryz.underlying41 hi0 _ 0 [] rfl ho rfl ?_)
      go_roundw
      case rel => exact ⟨j + 1, by omega, by go_num, HB.out, HO.out⟩
      case measure => simp [intOf]; omega
    · obtain rfl : j = 3 := by omega
      clear hz
      go_wp2_with fail
      go_ret
      exact ⟨_, _, rfl, HBW.out.trans (HB.out.mono HBW.out.size)⟩

set_option maxRecDepth 100000 in
set_option maxHeartbeats 4000000 in
theorem disjoint_nil (w : World) (a : Option Addr) (c : Nat) :
    Calls Tryz.prog 106 #[.slice a 0 c] w fun e w' => e = .returned (.bool true) ∧ Below w.heap.size w w' := by
  have HS := Lib.hid (rsequence_any w w.heap.size a c [] (runs_nil _ _ _) (Nat.le_refl _) (by simp))
  go_enter Tryz.func106, Tryz.ntmps106
  go_wp2_with fail
  refine HS.out.mono ?_
  rintro e w2 ⟨v, rfl, hO, hb2⟩
  obtain ⟨oa, oc, rfl⟩ := int_slice hO
  have HB := Lib.hid hb2
  clear hO hb2
  simp only [seqP, List.length_nil]
  go_wp2_with fail
  go_loop [4] (fun k => k = .int .i64 0) (fun _ => 0)
  case atStart => rfl
  case round =>
    obtain rfl := hrel
    go_wp2_with fail
    go_ret
    exact ⟨rfl, HB.out⟩

end Go.Proofs.YtcidbmldbikknaaGreatDoor

/-
  Walks: the best run and an allocation out of free tracks whose normal form is one run, by the reference. Conditions: runs in memory; the run is large enough.
-/
import Derived.Test.YtcidbmldbikknaaGreatDoorF3
namespace Go.Proofs.YtcidbmldbikknaaGreatDoor
open Go.RowKit Go.Sort
attribute [local go_sem ↓] loadRn_down storeRn_down

theorem ret_best {fn : Func} {R : Ending → World → Prop} {a : Act} {w : World} {p u : Tmp} {rb : Nat} {cs : Array Value} {x : Value} (hf : fn.results = #[.cell p 68, .tmp u]) (hp : a.tmps.getD p undef = .pointer (some ⟨rb, 0, none⟩)) (hu : a.tmps.getD u undef = x) (hd : a.defers = [])
    (hi : cs.size = 2) (hg : w.heap[rb]? = some (.cells cs 68 (0, 0))) (hR : R (.returned (.tuple #[.agg cs, x])) w) : bodyPost Tryz.prog fn R .ret a w := by
  have hp' : a.tmps[p]?.getD undef = .pointer (some ⟨rb, 0, none⟩) := by simpa using hp
  have hu' : a.tmps[u]?.getD undef = x := by simpa using hu
  refine bodyPost_ret ?_ hd hR
  simp [results, hf, hp', hu', asAddr, run_loadVar_row w rb 68 68 cs (0, 0) _ hg Tryz.underlying68 rfl (by rw [info_rn, hi])]

set_option maxRecDepth 100000 in
set_option maxHeartbeats 4000000 in
theorem best_one (w : World) (B : Nat) (a : Option Addr) (c : Nat) (l : List Rn) (f0 c0 n : Int) (ha : Runs w B a l) (hB : B ≤ w.heap.size) (hl : l.length ≤ 1000000) (hP : minP l [] = [(f0, c0)]) (hn1 : 1 ≤ n) (hn2 : n ≤ c0) :
    Calls Tryz.prog 108 #[.slice a l.length c, .int .i64 n] w fun e w' => e = .returned (.tuple #[.agg #[.int .i64 f0, .int .i64 n], .bool true]) ∧ Below w.heap.size w w' := by
  have HN := Lib.hid (fun W h1 h2 => normal_any W B a c l h1 h2 hl)
  rw [hP] at HN
  have HR := Lib.hid ha
  have HB1 := Lib.hid (box_below w #[.int .i64 0, .int .i64 0] 68)
  have HG1 := Lib.hid (heap_alloc_new w (.cells #[.int .i64 0, .int .i64 0] 68))
  have hc1 : (c0 == 0) = false := by simp; omega
  have hc2 : ¬ c0 = 0 := by omega
  have hd1 : decide (n ≤ c0) = true := by simpa using hn2
  clear ha hP
  go_enter Tryz.func108, Tryz.ntmps108
  go_wp2_with fail
  refine (HN.out _ (HR.out.below (HB1.out.mono hB)) (Nat.le_trans hB HB1.out.size)).mono ?_
  rintro e w2 ⟨v, rfl, hO, hb2⟩
  obtain ⟨oa, oc, rfl⟩ := row_slice hO
  obtain ⟨g, cap, hfm⟩ := hO.form (by simp)
  obtain ⟨⟨rfl, rfl⟩, hg1, hg2⟩ : (oa = some ⟨g, 0, none⟩ ∧ oc = cap) ∧ (w.alloc (.cells #[.int .i64 0, .int .i64 0] 68)).heap.size ≤ g ∧ g < w2.heap.size := by simpa using hfm
  have q0 := hO.cellAt 0 (by simp)
  have q1 := hO.cellAt 1 (by simp)
  simp only [refsF, List.getElem?_cons_zero, List.getElem?_cons_succ] at q0 q1
  obtain ⟨W3, hW3⟩ : ∃ W3, W3 = (w2.alloc (.cells #[.int .i64 0, .int .i64 0] 68)).setRow w2.heap.size #[.int .i64 0, .int .i64 0] := ⟨_, rfl⟩
  have st3 := storeRn_at (cs := #[.int .i64 0, .int .i64 0]) (heap_alloc_new w2 (.cells #[.int .i64 0, .int .i64 0] 68)) rfl rfl (rnC_one _ _)
  have hg3 : W3.heap[w2.heap.size]? = some (.cells #[.int .i64 0, .int .i64 0] 68 (0, 0)) := by rw [hW3]; exact setRow_heap _ _ _ _ _ _ (heap_alloc_new _ _)
  have hb23 : Below w2.heap.size w2 W3 := by rw [hW3]; exact Below.setRow (box_below _ _ _) (Nat.le_refl _) _
  have HB2 := Lib.hid (HB1.out.trans (hb2.mono HB1.out.size))
  have hrb2 := (hb2.block w.heap.size (lt_of_block HG1.out)).trans HG1.out
  have HRB3 := Lib.hid ((hb23.block w.heap.size (lt_of_block hrb2)).trans hrb2)
  have HQ0 := Lib.hid ((hb23.cell (p := ⟨g, 0, none⟩) hg2).trans q0)
  have HQ1 := Lib.hid ((hb23.cell (p := ⟨g, 1, none⟩) hg2).trans q1)
  have HB3 := Lib.hid (HB2.out.trans (hb23.mono HB2.out.size))
  have HG3 := Lib.hid hg3
  have hws : w.heap.size < g := by simp at hg1; omega
  have HWS := Lib.hid (show w.heap.size < w2.heap.size from lt_of_block hrb2)
  rw [← hW3] at st3
  generalize hgb : w2.heap.size = gb at *
  clear hO hb2 hfm q0 q1 hW3 hg3 hb23 hrb2 HB2 HN hg1
  have hgn : g ≠ gb := by omega
  have HGN := Lib.hid hgn
  go_wp2_with fail
  go_loopw [8] (fun k wr => ∃ j : Nat, j ≤ 1 ∧ k = .int .i64 j ∧ Below w.heap.size w wr ∧ wr.heap[w.heap.size]? = some (.cells #[.int .i64 0, .int .i64 0] 68 (0, 0)) ∧ wr.cell? ⟨g, 0, none⟩ = some (.int .i64 f0) ∧ wr.cell? ⟨g, 1, none⟩ = some (.int .i64 c0) ∧ wr.heap[gb]? = some (.cells (if j = 0 then #[.int .i64 0, .int .i64 0] else #[.int .i64 f0, .int .i64 c0]) 68 (0, 0))) (fun k _ => 1 - (intOf k).toNat)
  case atStart => exact ⟨0, by omega, rfl, HB3.out, HRB3.out, HQ0.out, HQ1.out, HG3.out⟩
  case round =>
    clear HB3 HRB3 HQ0 HQ1 HG3 st3
    obtain ⟨j, hj, rfl, hb, hrb, x0, x1, hgb2⟩ := hrel
    have HB := Lib.hid hb
    have HRB := Lib.hid hrb
    have HX0 := Lib.hid x0
    have HX1 := Lib.hid x1
    clear hb hrb
    rcases (show j = 0 ∨ j = 1 by omega) with rfl | rfl
    · rw [if_pos rfl] at hgb2
      have b1 := cell_at (i := 1) (v := .int .i64 0) hgb2 rfl
      have dl : (loadRn ⟨g, 0, none⟩).run Tryz.prog wr.drew = .ok (.agg #[.int .i64 f0, .int .i64 c0]) wr.drew := loadRn_mid (w := wr.drew) x0 x1
      have st : (storeRn ⟨gb, 0, none⟩ (.agg #[.int .i64 f0, .int .i64 c0])).run Tryz.prog wr.drew = .ok () (wr.drew.setRow gb #[.int .i64 f0, .int .i64 c0]) := storeRn_at (w := wr.drew) (cs := #[.int .i64 f0, .int .i64 c0]) hgb2 rfl rfl (rnC_one _ _)
      have HS := Lib.hid (setRow_heap wr.drew gb #[.int .i64 0, .int .i64 0] #[.int .i64 f0, .int .i64 c0] 68 (0, 0) hgb2)
      have HBS := Lib.hid (Below.setRow (below_drewN HB.out 1) (Nat.le_of_lt HWS.out) #[.int .i64 f0, .int .i64 c0] (g := gb))
      clear hgb2 hd1
      have hd1 : c0 ≥ n := hn2
      go_wp2_with fail
      go_region
      go_wp2_with fail
      go_roundw
      case rel => exact ⟨1, by omega, by go_num, HBS.out, (setRow_other wr.drew gb w.heap.size _ (Nat.ne_of_lt HWS.out)).trans HRB.out, (cell_setRow_other wr.drew gb _ ⟨g, 0, none⟩ HGN.out).trans HX0.out, (cell_setRow_other wr.drew gb _ ⟨g, 1, none⟩ HGN.out).trans HX1.out, HS.out⟩
      case measure => simp [intOf]
    · rw [if_neg (by omega)] at hgb2
      have b0 := cell_at (i := 0) (v := .int .i64 f0) hgb2 rfl
      have b1 := cell_at (i := 1) (v := .int .i64 c0) hgb2 rfl
      have st := storeRn_at (cs := #[.int .i64 f0, .int .i64 n]) HRB.out rfl rfl (rnC_one _ _)
      have HS := Lib.hid (setRow_heap wr w.heap.size #[.int .i64 0, .int .i64 0] #[.int .i64 f0, .int .i64 n] 68 (0, 0) HRB.out)
      have HBS := Lib.hid (Below.setRow HB.out (Nat.le_refl _) #[.int .i64 f0, .int .i64 n])
      clear hgb2
      go_wp2_with fail
      refine ret_best (cs := #[.int .i64 f0, .int .i64 n]) rfl rfl rfl rfl rfl HS.out ?_
      exact ⟨rfl, HBS.out⟩

end Go.Proofs.YtcidbmldbikknaaGreatDoor

/-
  Walks: the best run and an allocation out of free tracks whose normal form is one run, by the reference. Conditions: runs in memory; the run is large enough.
  Walks: an allocation out of one free run, the name 'V', the slots of 16 tracks, by the reference. Conditions: runs in memory; the run is large enough.
  Walks: the table of three empty labels is valid and uses no track, by the reference. Condition: the table lies in memory.
  Walk: the table of three empty labels is valid, by the reference. Condition: the table lies in memory.
  Walks: the free tracks of the table of three empty labels, and a table with another label in a slot, by the reference. Condition: the table lies in memory.
-/
import Derived.Test.YtcidbmldbikknaaGreatDoorF3
import Derived.Test.YtcidbmldbikknaaGreatDoorE22
import Derived.Test.YtcidbmldbikknaaGreatDoorE18
import Derived.Laws.AppendOwnNone
import Derived.Deep.QuietTactic
import Derived.BigQuiet
import Derived.Deep.RegionHeld3
namespace Go.Proofs.YtcidbmldbikknaaGreatDoor

section
open Go.RowKit Go.Sort
attribute [local go_sem ↓] loadRn_down storeRn_down

theorem ret_best {fn : Func} {R : Ending → World → Prop} {a : Act} {w : World} {p u : Tmp} {rb : Nat} {cs : Array Value} {x : Value} (hf : fn.results = #[.cell p 68, .tmp u]) (hp : a.tmps.getD p undef = .pointer (some ⟨rb, 0, none⟩)) (hu : a.tmps.getD u undef = x) (hd : a.defers = [])
    (hi : cs.size = 2) (hg : w.heap[rb]? = some (.cells cs 68 (0, 0))) (hR : R (.returned (.tuple #[.agg cs, x])) w) : bodyPost Tryz.prog fn R .ret a w := by
  have hp' : a.tmps[p]?.getD undef = .pointer (some ⟨rb, 0, none⟩) := by simpa using hp
  have hu' : a.tmps[u]?.getD undef = x := by simpa using hu
  refine bodyPost_ret ?_ hd hR
  simp [results, hf, hp', hu', asAddr, run_loadVar_row w rb 68 68 cs (0, 0) _ hg Tryz.underlying68 rfl (by rw [info_rn, hi])]

set_option maxRecDepth 100000 in
set_option maxHeartbeats 4000000 in
theorem best_one (w : World) (B : Nat) (a : Option Addr) (c : Nat) (l : List Rn) (f0 c0 n : Int) (ha : Runs w B a l) (hB : B ≤ w.heap.size) (hl : l.length ≤ 1000000) (hP : minP l [] = [(f0, c0)]) (hn1 : 1 ≤ n) (hn2 : n ≤ c0) :
    Calls Tryz.prog 108 #[.slice a l.length c, .int .i64 n] w fun e w' => e = .returned (.tuple #[.agg #[.int .i64 f0, .int .i64 n], .bool true]) ∧ Below w.heap.size w w' := by
  have HN := Lib.hid (fun W h1 h2 => normal_any W B a c l h1 h2 hl)
  rw [hP] at HN
  have HR := Lib.hid ha
  have HB1 := Lib.hid (box_below w #[.int .i64 0, .int .i64 0] 68)
  have HG1 := Lib.hid (heap_alloc_new w (.cells #[.int .i64 0, .int .i64 0] 68))
  have hc1 : (c0 == 0) = false := by simp; omega
  have hc2 : ¬ c0 = 0 := by omega
  have hd1 : decide (n ≤ c0) = true := by simpa using hn2
  clear ha hP
  go_enter Tryz.func108, Tryz.ntmps108
  go_wp2_with fail
  refine (HN.out _ (HR.out.below (HB1.out.mono hB)) (Nat.le_trans hB HB1.out.size)).mono ?_
  rintro e w2 ⟨v, rfl, hO, hb2⟩
  obtain ⟨oa, oc, rfl⟩ := row_slice hO
  obtain ⟨g, cap, hfm⟩ := hO.form (by simp)
  obtain ⟨⟨rfl, rfl⟩, hg1, hg2⟩ : (oa = some ⟨g, 0, none⟩ ∧ oc = cap) ∧ (w.alloc (.cells #[.int .i64 0, .int .i64 0] 68)).heap.size ≤ g ∧ g < w2.heap.size := by simpa using hfm
  have q0 := hO.cellAt 0 (by simp)
  have q1 := hO.cellAt 1 (by simp)
  simp only [refsF, List.getElem?_cons_zero, List.getElem?_cons_succ] at q0 q1
  obtain ⟨W3, hW3⟩ : ∃ W3, W3 = (w2.alloc (.cells #[.int .i64 0, .int .i64 0] 68)).setRow w2.heap.size #[.int .i64 0, .int .i64 0] := ⟨_, rfl⟩
  have st3 := storeRn_at (cs := #[.int .i64 0, .int .i64 0]) (heap_alloc_new w2 (.cells #[.int .i64 0, .int .i64 0] 68)) rfl rfl (rnC_one _ _)
  have hg3 : W3.heap[w2.heap.size]? = some (.cells #[.int .i64 0, .int .i64 0] 68 (0, 0)) := by rw [hW3]; exact setRow_heap _ _ _ _ _ _ (heap_alloc_new _ _)
  have hb23 : Below w2.heap.size w2 W3 := by rw [hW3]; exact Below.setRow (box_below _ _ _) (Nat.le_refl _) _
  have HB2 := Lib.hid (HB1.out.trans (hb2.mono HB1.out.size))
  have hrb2 := (hb2.block w.heap.size (lt_of_block HG1.out)).trans HG1.out
  have HRB3 := Lib.hid ((hb23.block w.heap.size (lt_of_block hrb2)).trans hrb2)
  have HQ0 := Lib.hid ((hb23.cell (p := ⟨g, 0, none⟩) hg2).trans q0)
  have HQ1 := Lib.hid ((hb23.cell (p := ⟨g, 1, none⟩) hg2).trans q1)
  have HB3 := Lib.hid (HB2.out.trans (hb23.mono HB2.out.size))
  have HG3 := Lib.hid hg3
  have hws : w.heap.size < g := by simp at hg1; omega
  have HWS := Lib.hid (show w.heap.size < w2.heap.size from lt_of_block hrb2)
  rw [← hW3] at st3
  generalize hgb : w2.heap.size = gb at *
  clear hO hb2 hfm q0 q1 hW3 hg3 hb23 hrb2 HB2 HN hg1
  have hgn : g ≠ gb := by omega
  have HGN := Lib.hid hgn
  go_wp2_with fail
  go_loopw [8] (fun k wr => ∃ j : Nat, j ≤ 1 ∧ k = .int .i64 j ∧ Below w.heap.size w wr ∧ wr.heap[w.heap.size]? = some (.cells #[.int .i64 0, .int .i64 0] 68 (0, 0)) ∧ wr.cell? ⟨g, 0, none⟩ = some (.int .i64 f0) ∧ wr.cell? ⟨g, 1, none⟩ = some (.int .i64 c0) ∧ wr.heap[gb]? = some (.cells (if j = 0 then #[.int .i64 0, .int .i64 0] else #[.int .i64 f0, .int .i64 c0]) 68 (0, 0))) (fun k _ => 1 - (intOf k).toNat)
  case atStart => exact ⟨0, by omega, rfl, HB3.out, HRB3.out, HQ0.out, HQ1.out, HG3.out⟩
  case round =>
    clear HB3 HRB3 HQ0 HQ1 HG3 st3
    obtain ⟨j, hj, rfl, hb, hrb, x0, x1, hgb2⟩ := hrel
    have HB := Lib.hid hb
    have HRB := Lib.hid hrb
    have HX0 := Lib.hid x0
    have HX1 := Lib.hid x1
    clear hb hrb
    rcases (show j = 0 ∨ j = 1 by omega) with rfl | rfl
    · rw [if_pos rfl] at hgb2
      have b1 := cell_at (i := 1) (v := .int .i64 0) hgb2 rfl
      have dl : (loadRn ⟨g, 0, none⟩).run Tryz.prog wr.drew = .ok (.agg #[.int .i64 f0, .int .i64 c0]) wr.drew := loadRn_mid (w := wr.drew) x0 x1
      have st : (storeRn ⟨gb, 0, none⟩ (.agg #[.int .i64 f0, .int .i64 c0])).run Tryz.prog wr.drew = .ok () (wr.drew.setRow gb #[.int .i64 f0, .int .i64 c0]) := storeRn_at (w := wr.drew) (cs := #[.int .i64 f0, .int .i64 c0]) hgb2 rfl rfl (rnC_one _ _)
      have HS := Lib.hid (setRow_heap wr.drew gb #[.int .i64 0, .int .i64 0] #[.int .i64 f0, .int .i64 c0] 68 (0, 0) hgb2)
      have HBS := Lib.hid (Below.setRow (below_drewN HB.out 1) (Nat.le_of_lt HWS.out) #[.int .i64 f0, .int .i64 c0] (g := gb))
      clear hgb2 hd1
      have hd1 : c0 ≥ n := hn2
      go_wp2_with fail
      go_region
      go_wp2_with fail
      go_roundw
      case rel => exact ⟨1, by omega, by go_num, HBS.out, (setRow_other wr.drew gb w.heap.size _ (Nat.ne_of_lt HWS.out)).trans HRB.out, (cell_setRow_other wr.drew gb _ ⟨g, 0, none⟩ HGN.out).trans HX0.out, (cell_setRow_other wr.drew gb _ ⟨g, 1, none⟩ HGN.out).trans HX1.out, HS.out⟩
      case measure => simp [intOf]
    · rw [if_neg (by omega)] at hgb2
      have b0 := cell_at (i := 0) (v := .int .i64 f0) hgb2 rfl
      have b1 := cell_at (i := 1) (v := .int .i64 c0) hgb2 rfl
      have st := storeRn_at (cs := #[.int .i64 f0, .int .i64 n]) HRB.out rfl rfl (rnC_one _ _)
      have HS := Lib.hid (setRow_heap wr w.heap.size #[.int .i64 0, .int .i64 0] #[.int .i64 f0, .int .i64 n] 68 (0, 0) HRB.out)
      have HBS := Lib.hid (Below.setRow HB.out (Nat.le_refl _) #[.int .i64 f0, .int .i64 n])
      clear hgb2
      go_wp2_with fail
      refine ret_best (cs := #[.int .i64 f0, .int .i64 n]) rfl rfl rfl rfl rfl HS.out ?_
      exact ⟨rfl, HBS.out⟩
end

section
open Go.RowKit Go.Sort
attribute [local go_sem ↓] loadRn_down storeRn_down

theorem ret2 {fn : Func} {R : Ending → World → Prop} {a : Act} {w : World} {p0 p1 : Tmp} {v0 v1 : Value} (hr : fn.results = #[.tmp p0, .tmp p1]) (h0 : a.tmps.getD p0 undef = v0) (h1 : a.tmps.getD p1 undef = v1)
    (hd : a.defers = []) (hR : R (.returned (.tuple #[v0, v1])) w) : bodyPost Tryz.prog fn R .ret a w := by
  subst h0 h1
  exact bodyPost_ret (by simp [results, hr, go_sem]) hd hR

set_option maxRecDepth 100000 in
set_option maxHeartbeats 4000000 in
theorem allocate_one (w : World) (B : Nat) (a : Option Addr) (c : Nat) (l : List Rn) (f0 c0 n : Int) (ha : Runs w B a l) (hB : B ≤ w.heap.size) (hl : l.length ≤ 1000000) (hP : minP l [] = [(f0, c0)]) (hn1 : 1 ≤ n) (hn2 : n ≤ c0) (hok : okRn (f0, n)) :
    Calls Tryz.prog 85 #[.slice a l.length c, .int .i64 n, .int .i64 16] w fun e w' => ∃ ra rc, e = .returned (.tuple #[.slice ra 1 rc, .int .i64 0]) ∧ Runs w' w'.heap.size ra [(f0, n)] ∧ (∀ p, ra = some p → w.heap.size ≤ p.block) ∧ Below w.heap.size w w' := by
  have HN := Lib.hid (best_one w B a c l f0 c0 n ha hB hl hP hn1 hn2)
  have HOK := Lib.hid hok
  have hn3 : ¬ n < 1 := by omega
  clear ha hP hok
  go_enter Tryz.func85, Tryz.ntmps85
  go_wp2_with fail
  refine HN.out.mono ?_
  rintro e w2 ⟨rfl, hb2⟩
  obtain ⟨W3, hW3⟩ : ∃ W3, W3 = (w2.alloc (.cells #[.int .i64 0, .int .i64 0] 68)).setRow w2.heap.size #[.int .i64 f0, .int .i64 n] := ⟨_, rfl⟩
  have st3 := storeRn_at (cs := #[.int .i64 f0, .int .i64 n]) (heap_alloc_new w2 (.cells #[.int .i64 0, .int .i64 0] 68)) rfl rfl (rnC_one _ _)
  have hg3 : W3.heap[w2.heap.size]? = some (.cells #[.int .i64 f0, .int .i64 n] 68 (0, 0)) := by rw [hW3]; exact setRow_heap _ _ _ _ _ _ (heap_alloc_new _ _)
  have hb23 : Below w2.heap.size w2 W3 := by rw [hW3]; exact Below.setRow (box_below _ _ _) (Nat.le_refl _) _
  have HB3 := Lib.hid (hb2.trans (hb23.mono hb2.size))
  have dl := loadRn_at hg3 rfl
  rw [← hW3] at st3
  clear hW3 hb23 hb2 hg3
  go_wp2_with fail
  refine ret2 rfl rfl rfl rfl ?_
  exact ⟨_, _, rfl, runs_lit W3 f0 n HOK.out _, fun p hp => by obtain rfl := Option.some.inj hp; exact HB3.out.size, HB3.out.alloc HB3.out.size _⟩

set_option maxRecDepth 100000 in
set_option maxHeartbeats 4000000 in
theorem validname_V (w : World) : Calls Tryz.prog 82 #[.string ⟨#[86]⟩] w fun e w' => e = .returned (.bool true) ∧ w' = w := by
  go_enter Tryz.func82, Tryz.ntmps82
  go_wp2_with fail
  go_loop [3] (fun k => ∃ j : Nat, j ≤ 1 ∧ k = .int .i64 j) (fun k => 1 - (intOf k).toNat)
  case atStart => exact ⟨0, by omega, rfl⟩
  case round =>
    obtain ⟨j, hj, rfl⟩ := hrel
    rcases (show j = 0 ∨ j = 1 by omega) with rfl | rfl
    · go_wp2_with fail
      go_roundw
      case rel => exact ⟨1, by omega, by go_num⟩
      case measure => simp [intOf]
    · go_wp2_with fail
      go_ret
      exact ⟨rfl, rfl⟩

set_option maxRecDepth 100000 in
set_option maxHeartbeats 1000000 in
theorem slots_16 (w : World) : Calls Tryz.prog 83 #[.int .i64 16] w fun e w' => e = .returned (.int .i64 3) ∧ w' = w := by
  have HT := Lib.hid (show Calls Tryz.prog 23 #[.int .i64 16] w fun e w' => e = .returned (.int .i64 4) ∧ w = w' from rtabletracks_any 16 w)
  go_enter Tryz.func83, Tryz.ntmps83
  go_wp2_with fail
  refine HT.out.mono ?_
  rintro e _ ⟨rfl, rfl⟩
  go_wp2_with fail
  go_ret
  exact ⟨rfl, rfl⟩
end

section
open Go.RowKit Go.Sort
attribute [local go_sem ↓] loadRn_down storeRn_down loadLab_down storeLab_down loadTab_down

/-- Three empty labels in cells below a block. -/
structure Zer (w : World) (B : Nat) (b : Nat) : Prop where
  lt : b < B
  c0 : ∀ i < 3, w.cell? ⟨b, i * 5, none⟩ = some (.int .i64 0)
  c1 : ∀ i < 3, w.cell? ⟨b, i * 5 + 1, none⟩ = some (.int .i64 0)
  c2 : ∀ i < 3, w.cell? ⟨b, i * 5 + 2, none⟩ = some (.string ⟨#[]⟩)
  c3 : ∀ i < 3, w.cell? ⟨b, i * 5 + 3, none⟩ = some (.string ⟨#[]⟩)
  c4 : ∀ i < 3, w.cell? ⟨b, i * 5 + 4, none⟩ = some (.slice none 0 0)
theorem Zer.below {w w' : World} {B b : Nat} (h : Zer w B b) (hb : Below B w w') : Zer w' B b :=
  ⟨h.lt, fun i hi => (hb.cell (p := ⟨b, i * 5, none⟩) h.lt).trans (h.c0 i hi), fun i hi => (hb.cell (p := ⟨b, i * 5 + 1, none⟩) h.lt).trans (h.c1 i hi), fun i hi => (hb.cell (p := ⟨b, i * 5 + 2, none⟩) h.lt).trans (h.c2 i hi), fun i hi => (hb.cell (p := ⟨b, i * 5 + 3, none⟩) h.lt).trans (h.c3 i hi), fun i hi => (hb.cell (p := ⟨b, i * 5 + 4, none⟩) h.lt).trans (h.c4 i hi)⟩
theorem Zer.mono {w : World} {B B' b : Nat} (h : Zer w B b) (hB : B ≤ B') : Zer w B' b := ⟨Nat.lt_of_lt_of_le h.lt hB, h.c0, h.c1, h.c2, h.c3, h.c4⟩

set_option maxRecDepth 100000 in
set_option maxHeartbeats 4000000 in
theorem used_zero (w : World) (B b cap : Nat) (nm : By) (tr : Int) (h : Zer w B b) (hB : B ≤ w.heap.size) :
    Calls Tryz.prog 107 #[.agg (tabC nm tr (some ⟨b, 0, none⟩) 3 cap)] w fun e w' => ∃ ra rc, e = .returned (.slice ra 0 rc) ∧ Below w.heap.size w w' := by
  obtain ⟨i0, hi0, hz0, hz1, hz2⟩ := info_parts infoRn
  obtain ⟨W0, hW0⟩ : ∃ W0, W0 = w.alloc (.cells (tabC nm tr (some ⟨b, 0, none⟩) 3 cap) 24) := ⟨_, rfl⟩
  have HBW := Lib.hid (show Below w.heap.size w W0 by rw [hW0]; exact box_below w _ _)
  have hd0 : W0.heap[w.heap.size]? = some (.cells (tabC nm tr (some ⟨b, 0, none⟩) 3 cap) 24 (0, 0)) := by rw [hW0]; exact heap_alloc_new w _
  have HD0 := Lib.hid hd0
  have hs0 : W0.heap.size = w.heap.size + 1 := by rw [hW0]; simp
  have ho0 : (W0.alloc (.cells #[] 68)).ownsRow W0.heap.size 68 2 (.slice (some ⟨W0.heap.size, 0, none⟩) 0 0) 0 [] := World.ownsRow_lit W0 #[] 0 (Nat.le_refl _) (by simp [maxLen]) rfl
  rw [hs0] at ho0
  have HO0 := Lib.hid (own_mono ho0 (Nat.le_succ _))
  have HB0 := Lib.hid (box_below W0 #[] 68)
  have HZ := Lib.hid h
  have HW0 := Lib.hid hW0
  clear h hW0 hd0 ho0 hs0
  go_enter Tryz.func107, Tryz.ntmps107
  go_wp2_with fail
  rw [← HW0.out]
  go_loopw [3, 4] (fun v k wr => ∃ j : Nat, j ≤ 3 ∧ k = .int .i64 j ∧ Below W0.heap.size W0 wr ∧ wr.ownsRow w.heap.size 68 2 v 0 []) (fun _ k _ => 3 - (intOf k).toNat)
  case atStart => exact ⟨0, by omega, rfl, HB0.out, HO0.out⟩
  case round =>
    clear HB0 HO0
    obtain ⟨j, hj, rfl, hb, ho⟩ := hrel
    have HB := Lib.hid hb
    have HO := Lib.hid ho
    have hd := (hb.block w.heap.size (lt_of_block HD0.out)).trans HD0.out
    have t2 := cell_at (i := 2) (v := .slice (some ⟨b, 0, none⟩) 3 cap) hd rfl
    obtain ⟨oa, oc, rfl⟩ := row_slice ho
    have hz := HZ.out.below (((HBW.out.trans (hb.mono HBW.out.size))).mono hB)
    clear hb hd
    by_cases hlt : j < 3
    · have hltI : (j : Int) < 3 := by omega
      have x4 := hz.c4 j hlt
      clear hz
      go_wp2_with (refine wpList_append_own_none rfl _ _ 41 rfl w.heap.size 68 i0 2 Tryz.underlying41 hi0 _ 0 [] rfl ho rfl ?_)
      go_roundw
      case rel => exact ⟨j + 1, by omega, by go_num, HB.out, HO.out⟩
      case measure => simp [intOf]; omega
    · obtain rfl : j = 3 := by omega
      clear hz
      go_wp2_with fail
      go_ret
      exact ⟨_, _, rfl, HBW.out.trans (HB.out.mono HBW.out.size)⟩

set_option maxRecDepth 100000 in
set_option maxHeartbeats 4000000 in
theorem disjoint_nil (w : World) (a : Option Addr) (c : Nat) :
    Calls Tryz.prog 106 #[.slice a 0 c] w fun e w' => e = .returned (.bool true) ∧ Below w.heap.size w w' := by
  have HS := Lib.hid (rsequence_any w w.heap.size a c [] (runs_nil _ _ _) (Nat.le_refl _) (by simp))
  go_enter Tryz.func106, Tryz.ntmps106
  go_wp2_with fail
  refine HS.out.mono ?_
  rintro e w2 ⟨v, rfl, hO, hb2⟩
  obtain ⟨oa, oc, rfl⟩ := int_slice hO
  have HB := Lib.hid hb2
  clear hO hb2
  simp only [seqP, List.length_nil]
  go_wp2_with fail
  go_loop [4] (fun k => k = .int .i64 0) (fun _ => 0)
  case atStart => rfl
  case round =>
    obtain rfl := hrel
    go_wp2_with fail
    go_ret
    exact ⟨rfl, HB.out⟩
end

section
open Go.RowKit Go.Sort
attribute [local go_sem ↓] loadRn_down storeRn_down loadLab_down storeLab_down loadTab_down

set_option maxRecDepth 100000 in
set_option maxHeartbeats 8000000 in
theorem valid_zero (w : World) (B b cap : Nat) (h : Zer w B b) (hB : B ≤ w.heap.size) :
    Calls Tryz.prog 84 #[.agg #[.string ⟨#[86]⟩, .int .i64 16, .slice (some ⟨b, 0, none⟩) 3 cap]] w fun e w' => e = .returned (.bool true) ∧ Below w.heap.size w w' := by
  obtain ⟨W0, hW0⟩ : ∃ W0, W0 = w.alloc (.cells #[.string ⟨#[86]⟩, .int .i64 16, .slice (some ⟨b, 0, none⟩) 3 cap] 24) := ⟨_, rfl⟩
  have HBW := Lib.hid (show Below w.heap.size w W0 by rw [hW0]; exact box_below w _ _)
  have hd0 : W0.heap[w.heap.size]? = some (.cells #[.string ⟨#[86]⟩, .int .i64 16, .slice (some ⟨b, 0, none⟩) 3 cap] 24 (0, 0)) := by rw [hW0]; exact heap_alloc_new w _
  have HD0 := Lib.hid hd0
  have HZ := Lib.hid h
  have HV := Lib.hid (fun W => validname_V W)
  have HTT := Lib.hid (fun W => show Calls Tryz.prog 23 #[.int .i64 16] W fun e w' => e = .returned (.int .i64 4) ∧ w' = W from (rtabletracks_any 16 W).mono fun e w' ⟨q1, q2⟩ => ⟨q1, q2.symm⟩)
  have HSL := Lib.hid (fun W => slots_16 W)
  have HE := Lib.hid (fun W => show Calls Tryz.prog 60 #[.agg zeroV] W fun e w' => e = .returned (.bool true) ∧ Below W.heap.size W w' from rempty_c 0 0 [] [] none 0 0 W)
  have HU := Lib.hid (fun W h1 h2 => used_zero W B b cap [86] 16 h1 h2)
  have HDJ := Lib.hid (fun W a c => disjoint_nil W a c)
  have t0 := cell_at (i := 0) (v := .string ⟨#[86]⟩) hd0 rfl
  have t1 := cell_at (i := 1) (v := .int .i64 16) hd0 rfl
  have t2 := cell_at (i := 2) (v := .slice (some ⟨b, 0, none⟩) 3 cap) hd0 rfl
  have HW0 := Lib.hid hW0
  clear h hW0 hd0
  go_enter Tryz.func84, Tryz.ntmps84
  go_wp2_with fail
  rw [← HW0.out]
  go_quiet (first | (go_at_call 82; exact Calls.quiet_of_same (HV.out _)) | (go_at_call 23; exact Calls.quiet_of_same (HTT.out _)) | (go_at_call 83; exact Calls.quiet_of_same (HSL.out _)))
  go_wp2_with fail
  clear t0 t1 t2
  have HB5 := Lib.hid (below_drewN (Below.refl W0.heap.size W0) nq)
  generalize W0.drewN nq = W5 at HB5 ⊢
  clear HV HTT HSL
  go_loopw [3] (fun k wr => ∃ j : Nat, j ≤ 3 ∧ k = .int .i64 j ∧ Below W0.heap.size W0 wr) (fun k _ => 3 - (intOf k).toNat)
  case atStart => exact ⟨0, by omega, rfl, HB5.out⟩
  case round =>
    clear HB5
    obtain ⟨j, hj, rfl, hb⟩ := hrel
    have HB := Lib.hid hb
    have hd := (hb.block w.heap.size (lt_of_block HD0.out)).trans HD0.out
    have t2 := cell_at (i := 2) (v := .slice (some ⟨b, 0, none⟩) 3 cap) hd rfl
    have dlt := loadTab_at hd rfl
    have HD := Lib.hid hd
    have hz := HZ.out.below (((HBW.out.trans (hb.mono HBW.out.size))).mono hB)
    have HZ1 := Lib.hid hz
    clear hb hd
    by_cases hlt : j < 3
    · have hltI : (j : Int) < 3 := by omega
      have hbw : b < wr.heap.size := Nat.lt_of_lt_of_le HZ.out.lt (Nat.le_trans hB (HBW.out.trans (HB.out.mono HBW.out.size)).size)
      have dl0 := loadLab_mid (hz.c0 j hlt) (hz.c1 j hlt) (hz.c2 j hlt) (hz.c3 j hlt) (hz.c4 j hlt)
      obtain ⟨W1, hW1⟩ : ∃ W1, W1 = (wr.alloc (.cells zeroV 43)).setRow wr.heap.size zeroV := ⟨_, rfl⟩
      have st1 := storeLab_at (cs := zeroV) (heap_alloc_new wr (.cells zeroV 43)) rfl rfl (by simp [Value.oneCell'])
      have hg1 : W1.heap[wr.heap.size]? = some (.cells zeroV 43 (0, 0)) := by rw [hW1]; exact setRow_heap _ _ _ _ _ _ (heap_alloc_new _ _)
      have hb1 : Below wr.heap.size wr W1 := by rw [hW1]; exact Below.setRow (box_below _ _ _) (Nat.le_refl _) _
      rw [← hW1] at st1
      have dl1 := loadLab_at hg1 rfl
      have HG1 := Lib.hid hg1
      have HB1 := Lib.hid (HB.out.trans (hb1.mono HB.out.size))
      clear hz hW1 hg1 hb1 dlt
      simp only [zeroV] at dl0 st1 dl1 HE HG1
      generalize hlb : wr.heap.size = lb at *
      go_wp2_with fail
      refine (HE.out _).mono ?_
      rintro e w2 ⟨rfl, hb2⟩
      have HB2 := Lib.hid (HB1.out.trans (hb2.mono HB1.out.size))
      have HG2 := Lib.hid ((hb2.block lb (lt_of_block HG1.out)).trans HG1.out)
      clear hb2 dl0 dl1 st1 t2
      go_wp2_with fail
      go_loopw [5] (fun k wq => ∃ m : Nat, m ≤ j ∧ k = .int .i64 m ∧ Below W0.heap.size W0 wq ∧ Below w2.heap.size w2 wq) (fun k _ => j - (intOf k).toNat)
      case atStart => exact ⟨0, by omega, rfl, HB2.out, Below.refl _ _⟩
      case round =>
        clear HB2
        obtain ⟨m, hm, rfl, hb3, hb4⟩ := hrel
        have HB3 := Lib.hid hb3
        have HB4 := Lib.hid hb4
        have hd := (hb3.block w.heap.size (lt_of_block HD0.out)).trans HD0.out
        have t2 := cell_at (i := 2) (v := .slice (some ⟨b, 0, none⟩) 3 cap) hd rfl
        have hz := HZ.out.below (((HBW.out.trans (hb3.mono HBW.out.size))).mono hB)
        have hg := (hb4.block lb (lt_of_block HG2.out)).trans HG2.out
        clear hb3 hb4 hd
        by_cases hmt : m < j
        · have hmtI : (m : Int) < (j : Int) := by omega
          have hm3I : (m : Int) < 3 := by omega
          have hm3 : m < 3 := by omega
          have dl0 := loadLab_mid (hz.c0 m hm3) (hz.c1 m hm3) (hz.c2 m hm3) (hz.c3 m hm3) (hz.c4 m hm3)
          obtain ⟨W6, hW6⟩ : ∃ W6, W6 = (wr.alloc (.cells zeroV 43)).setRow wr.heap.size zeroV := ⟨_, rfl⟩
          have st6 := storeLab_at (cs := zeroV) (heap_alloc_new wr (.cells zeroV 43)) rfl rfl (by simp [Value.oneCell'])
          have hb6 : Below wr.heap.size wr W6 := by rw [hW6]; exact Below.setRow (box_below _ _ _) (Nat.le_refl _) _
          have hg6 := (hb6.block lb (lt_of_block hg)).trans hg
          rw [← hW6] at st6
          have dl6 := loadLab_at hg6 rfl
          have HB6 := Lib.hid (HB3.out.trans (hb6.mono HB3.out.size))
          have HB7 := Lib.hid (HB4.out.trans (hb6.mono HB4.out.size))
          clear hz hg hW6 hb6 hg6
          simp only [zeroV] at dl0 st6 dl6
          go_wp2_with fail
          refine (HE.out _).mono ?_
          rintro e w8 ⟨rfl, hb8⟩
          have HB8 := Lib.hid (HB6.out.trans (hb8.mono HB6.out.size))
          have HB9 := Lib.hid (HB7.out.trans (hb8.mono HB7.out.size))
          clear hb8 dl0 st6 dl6 t2
          go_wp2_with fail
          go_roundw
          case rel => exact ⟨m + 1, by omega, by go_num, HB8.out, HB9.out⟩
          case measure => simp [intOf]; omega
        · have hmtI : ¬ (m : Int) < (j : Int) := by omega
          clear hz hg t2
          go_wp2_with fail
          go_roundw
          case rel => exact ⟨j + 1, by omega, by go_num, HB3.out⟩
          case measure => simp [intOf]; omega
    · obtain rfl : j = 3 := by omega
      have hltI : ¬ ((3 : Nat) : Int) < 3 := by omega
      have HUU := Lib.hid (HU.out wr hz (Nat.le_trans hB (HBW.out.trans (HB.out.mono HBW.out.size)).size))
      clear hz
      simp only [tabC] at HUU
      go_wp2_with fail
      refine HUU.out.mono ?_
      rintro e w2 ⟨ra, rc, rfl, hb2⟩
      have HB2 := Lib.hid (HB.out.trans (hb2.mono HB.out.size))
      clear hb2 dlt t2
      go_wp2_with fail
      refine (HDJ.out _ _ _).mono ?_
      rintro e w3 ⟨rfl, hb3⟩
      have HB3 := Lib.hid (HB2.out.trans (hb3.mono HB2.out.size))
      clear hb3
      go_wp2_with fail
      go_ret
      exact ⟨rfl, HBW.out.trans (HB3.out.mono HBW.out.size)⟩
end

section
open Go.RowKit Go.Sort
attribute [local go_sem ↓] loadRn_down storeRn_down loadLab_down storeLab_down loadTab_down

theorem free_16 : minP (freeF 4 16 128) [] = [(4, 12)] := by decide +kernel
theorem free_12 : minP [(4, 12)] [] = [(4, 12)] := by decide +kernel
abbrev tab0 (b cap : Nat) : Array Value := #[.string ⟨#[86]⟩, .int .i64 16, .slice (some ⟨b, 0, none⟩) 3 cap]

set_option maxRecDepth 100000 in
set_option maxHeartbeats 8000000 in
theorem free_zero (w : World) (B b cap : Nat) (h : Zer w B b) (hB : B ≤ w.heap.size) :
    Calls Tryz.prog 86 #[.agg (tab0 b cap)] w fun e w' => ∃ ra rc, e = .returned (.slice ra 1 rc) ∧ Runs w' w'.heap.size ra [(4, 12)] ∧ Below w.heap.size w w' := by
  obtain ⟨W0, hW0⟩ : ∃ W0, W0 = w.alloc (.cells (tab0 b cap) 24) := ⟨_, rfl⟩
  have HBW := Lib.hid (show Below w.heap.size w W0 by rw [hW0]; exact box_below w _ _)
  have hd0 : W0.heap[w.heap.size]? = some (.cells (tab0 b cap) 24 (0, 0)) := by rw [hW0]; exact heap_alloc_new w _
  have HD0 := Lib.hid hd0
  have HZ := Lib.hid h
  have HV := Lib.hid (fun W h1 h2 => valid_zero W B b cap h1 h2)
  have HTT := Lib.hid (fun W => show Calls Tryz.prog 23 #[.int .i64 16] W fun e w' => e = .returned (.int .i64 4) ∧ w' = W from (rtabletracks_any 16 W).mono fun e w' ⟨q1, q2⟩ => ⟨q1, q2.symm⟩)
  have HU := Lib.hid (fun W h1 h2 => used_zero W B b cap [86] 16 h1 h2)
  have HF := Lib.hid (fun W ra rc => show Calls Tryz.prog 110 #[.int .i64 4, .int .i64 16, .slice ra 0 rc] W fun e w' => ∃ v, e = .returned v ∧ w'.ownsRow W.heap.size 68 2 v 1 (refsF [(4, 12)]) ∧ Below W.heap.size W w' by
    have := rfree_any W W.heap.size ra rc [] 4 16 (runs_nil _ _ _) (Nat.le_refl _) (by simp)
    rw [free_16] at this
    exact this)
  have dl := loadTab_at (heap_alloc_new w (.cells (tab0 b cap) 24)) rfl
  have HW0 := Lib.hid hW0
  clear h hW0 hd0
  simp only [tab0] at dl
  go_enter Tryz.func86, Tryz.ntmps86
  go_wp2_with fail
  rw [← HW0.out]
  refine (HV.out _ (HZ.out.below (HBW.out.mono hB)) (Nat.le_trans hB HBW.out.size)).mono ?_
  rintro e w1 ⟨rfl, hb1⟩
  have HB1 := Lib.hid (HBW.out.trans (hb1.mono HBW.out.size))
  have hd1 := (hb1.block w.heap.size (lt_of_block HD0.out)).trans HD0.out
  have HD1 := Lib.hid hd1
  have hd1d : w1.drew.heap[w.heap.size]? = some (.cells (tab0 b cap) 24 (0, 0)) := hd1
  have d1 := cell_at (i := 1) (v := .int .i64 16) hd1d rfl
  have dl1 := loadTab_at hd1d rfl
  simp only [tab0] at dl1
  clear hb1 dl hd1 hd1d
  go_wp2_with fail
  go_region_held3 (fun w' => w'.cell? ⟨w.heap.size, 1, none⟩ = some (.int .i64 16) ∧ (loadTab ⟨w.heap.size, 0, none⟩).run Tryz.prog w' = .ok (.agg #[.string ⟨#[86]⟩, .int .i64 16, .slice (some ⟨b, 0, none⟩) 3 cap]) w') (first | assumption | exact ⟨by assumption, by assumption⟩)
   ((first
     | (go_at_call 23
        refine (HTT.out _).mono ?_
        rintro e _ ⟨rfl, rfl⟩)
     | (go_at_call 107
        refine (HU.out w1.drew (HZ.out.below ((below_drewN HB1.out 1).mono hB)) (Nat.le_trans hB HB1.out.size)).mono ?_
        rintro e w2 ⟨ra, rc, rfl, hb2⟩
        have hb2 : Below w1.heap.size w1 w2 := below_drew1.trans hb2
        have HD2 := Lib.hid ((hb2.block w.heap.size (lt_of_block HD1.out)).trans HD1.out)
        have g1 := cell_at (i := 1) (v := .int .i64 16) HD2.out rfl
        have gl := loadTab_at HD2.out rfl
        simp only [tab0] at gl
        have HB2 := Lib.hid (HB1.out.trans (hb2.mono HB1.out.size))
        clear hb2)
     | (go_at_call 110
        refine (HF.out _ ra rc).mono ?_
        rintro e w3 ⟨v, rfl, hO, hb3⟩
        have HD3 := Lib.hid ((hb3.block w.heap.size (lt_of_block HD2.out)).trans HD2.out)
        have q1 := cell_at (i := 1) (v := .int .i64 16) HD3.out rfl
        have ql := loadTab_at HD3.out rfl
        simp only [tab0] at ql
        have HB3 := Lib.hid (HB2.out.trans (hb3.mono HB2.out.size))
        have HO3 := Lib.hid hO
        clear hb3 hO)))
  clear q1 ql g1 gl d1 dl1
  go_wp2_with fail
  go_ret
  obtain ⟨ra2, rc2, hv, hR⟩ := runs_of_row (l := [(4, 12)]) HO3.out (fun r hr => by obtain rfl : r = (4, 12) := (by simpa using hr); exact ⟨by unfold okI; simp, by unfold okI; simp⟩)
  subst hv
  exact ⟨ra2, rc2, rfl, hR, HB3.out⟩
end

end Go.Proofs.YtcidbmldbikknaaGreatDoor

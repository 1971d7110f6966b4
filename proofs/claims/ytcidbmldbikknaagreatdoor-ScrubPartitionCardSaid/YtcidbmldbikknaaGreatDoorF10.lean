/-
  Walk: a label is created in the table of three empty labels, by the reference. Condition: the table lies in memory.
-/
import Derived.Test.YtcidbmldbikknaaGreatDoorF9
namespace Go.Proofs.YtcidbmldbikknaaGreatDoor
open Go.RowKit Go.Sort
attribute [local go_sem ↓] loadRn_down storeRn_down loadLab_down storeLab_down loadTab_down storeTab_down storeRef_down

/-- The labels of the example. -/
theorem runs_blk {w w' : World} {B B' : Nat} {a : Option Addr} {l : List Rn} (h : Runs w B a l) (hB' : B ≤ B') (hS : ∀ p, a = some p → p.block < B → w'.heap[p.block]? = w.heap[p.block]?) : Runs w' B' a l := by
  refine ⟨fun hl => ?_, h.ok⟩
  obtain ⟨b, off, rfl, hb, hc⟩ := h.cells hl
  have hn := hS _ rfl hb
  exact ⟨b, off, rfl, Nat.lt_of_lt_of_le hb hB', fun i hi => ⟨(World.cell?_of_block (w := w) (a := ⟨b, off + i * 2, none⟩) hn).trans (hc i hi).1, (World.cell?_of_block (w := w) (a := ⟨b, off + i * 2 + 1, none⟩) hn).trans (hc i hi).2⟩⟩
def zLab : Lab := ⟨0, 0, [], [], []⟩
def exL : List Lab := [⟨5, 1, [65], [], [(4, 3)]⟩, zLab, zLab]
theorem labs_ex {w : World} {g : Nat} {ra : Option Addr} {rc : Nat} (hg : g < w.heap.size) (hr : w.rangeAt g 0 ([.int .i64 5, .int .i64 1, .string ⟨#[65]⟩, .string ⟨#[]⟩, .slice ra 1 rc] ++ (zer5 ++ zer5))) (hR : Runs w w.heap.size ra [(4, 3)]) : Labs w w.heap.size (some ⟨g, 0, none⟩) exL := by
  have gt : ∀ j v, ([Value.int .i64 5, .int .i64 1, .string ⟨#[65]⟩, .string ⟨#[]⟩, .slice ra 1 rc] ++ (zer5 ++ zer5))[j]? = some v → w.cell? ⟨g, 0 + j, none⟩ = some v := hr
  refine ⟨fun _ => ⟨g, 0, rfl, hg, fun i hi => ?_⟩, fun x hx => ?_⟩
  · have hi : i < 3 := hi
    rcases (show i = 0 ∨ i = 1 ∨ i = 2 by omega) with rfl | rfl | rfl
    · exact ⟨gt 0 _ rfl, gt 1 _ rfl, gt 2 _ rfl, gt 3 _ rfl, ra, rc, gt 4 _ rfl, hR⟩
    · exact ⟨gt 5 _ rfl, gt 6 _ rfl, gt 7 _ rfl, gt 8 _ rfl, none, 0, gt 9 _ rfl, runs_nil _ _ _⟩
    · exact ⟨gt 10 _ rfl, gt 11 _ rfl, gt 12 _ rfl, gt 13 _ rfl, none, 0, gt 14 _ rfl, runs_nil _ _ _⟩
  · simp only [exL, zLab, List.mem_cons, List.not_mem_nil, or_false, or_self] at hx
    rcases hx with rfl | rfl
    · exact ⟨by unfold okI; simp, by unfold okI; simp, by simp, by simp⟩
    · exact ⟨by unfold okI; simp, by unfold okI; simp, by simp, by simp⟩

/-- The example's labels lie in blocks that are not older than a block: they are there in every world that keeps these blocks. -/
def ExAt (lo : Nat) (w : World) (g : Nat) : Prop := ∀ W' : World, w.heap.size ≤ W'.heap.size → (∀ k, lo ≤ k → k < w.heap.size → W'.heap[k]? = w.heap[k]?) → Labs W' W'.heap.size (some ⟨g, 0, none⟩) exL

set_option maxRecDepth 100000 in
set_option maxHeartbeats 8000000 in
theorem create_zero (w : World) (B b cap : Nat) (h : Zer w B b) (hB : B ≤ w.heap.size) :
    Calls Tryz.prog 55 #[.agg #[.string ⟨#[86]⟩, .int .i64 16, .slice (some ⟨b, 0, none⟩) 3 cap], .agg #[.int .i64 5, .int .i64 1], .string ⟨#[65]⟩, .string ⟨#[]⟩, .int .i64 3] w fun e w' => ∃ g c, e = .returned (.tuple #[.agg (tab0 g c), .int .i64 0]) ∧ ExAt w.heap.size w' g ∧ Below w.heap.size w w' := by
  obtain ⟨W0, hW0⟩ : ∃ W0, W0 = ((w.alloc (.cells (tab0 b cap) 24)).alloc (.cells #[.int .i64 5, .int .i64 1] 40)).alloc (.cells #[.string ⟨#[]⟩, .int .i64 0, .slice none 0 0] 24) := ⟨_, rfl⟩
  have hb0 : Below w.heap.size w W0 := by rw [hW0]; exact (((Below.refl _ _).alloc (by simp) _).alloc (by simp) _).alloc (by simp; omega) _
  have hs0 : W0.heap.size = w.heap.size + 3 := by rw [hW0]; simp
  have hd0 : W0.heap[w.heap.size]? = some (.cells (tab0 b cap) 24 (0, 0)) := by
    rw [hW0]
    exact (halloc _ _ (by simp; omega)).trans ((halloc _ _ (by simp)).trans (heap_alloc_new _ _))
  have hl0 : W0.heap[w.heap.size + 1]? = some (.cells #[.int .i64 5, .int .i64 1] 40 (0, 0)) := by
    rw [hW0]
    exact (halloc _ _ (by simp)).trans (two_new _ _ _ _ _)
  have hr0 : W0.heap[w.heap.size + 1 + 1]? = some (.cells #[.string ⟨#[]⟩, .int .i64 0, .slice none 0 0] 24 (0, 0)) := by
    rw [hW0]
    have := heap_alloc_new ((w.alloc (.cells (tab0 b cap) 24)).alloc (.cells #[.int .i64 5, .int .i64 1] 40)) (.cells #[.string ⟨#[]⟩, .int .i64 0, .slice none 0 0] 24)
    have e : ((w.alloc (.cells (tab0 b cap) 24)).alloc (.cells #[.int .i64 5, .int .i64 1] 40)).heap.size = w.heap.size + 1 + 1 := by simp
    rw [e] at this; exact this
  have HW0 := Lib.hid hW0
  have HBW := Lib.hid hb0
  have HD0 := Lib.hid hd0
  have HL0 := Lib.hid hl0
  have HR0 := Lib.hid hr0
  have HZ := Lib.hid h
  have HV := Lib.hid (fun W h1 h2 => valid_zero W B b cap h1 h2)
  have HE := Lib.hid (fun W => show Calls Tryz.prog 60 #[.agg #[.int .i64 0, .int .i64 0, .string ⟨#[]⟩, .string ⟨#[]⟩, .slice none 0 0]] W fun e w' => e = .returned (.bool true) ∧ Below W.heap.size W w' from rempty_c 0 0 [] [] none 0 0 W)
  have HF := Lib.hid (fun W h1 h2 => free_zero W B b cap h1 h2)
  have HA := Lib.hid (fun W a c (h1 : Runs W W.heap.size a [(4, 12)]) => allocate_one W W.heap.size a c [(4, 12)] 4 12 3 h1 (Nat.le_refl _) (by simp) free_12 (by decide) (by decide) ⟨by unfold okI; simp, by unfold okI; simp⟩)
  have HP := Lib.hid (fun W x4 h1 h2 h3 => put_zero W B b cap (.int .i64 5) (.int .i64 1) (.string ⟨#[65]⟩) (.string ⟨#[]⟩) x4 h1 h2 h3)
  have dl := loadTab_at hd0 rfl
  have t2 := cell_at (i := 2) (v := .slice (some ⟨b, 0, none⟩) 3 cap) hd0 rfl
  simp only [tab0] at dl
  rw [hW0] at dl
  clear h hW0 hd0 hl0 hr0 hb0 hs0 t2
  go_enter Tryz.func55, Tryz.ntmps55
  go_wp2_with fail
  rw [← HW0.out]
  refine (HV.out _ (HZ.out.below (HBW.out.mono hB)) (Nat.le_trans hB HBW.out.size)).mono ?_
  rintro e w1 ⟨rfl, hb1⟩
  have HB1 := Lib.hid hb1
  have hl1 := (hb1.block (w.heap.size + 1) (lt_of_block HL0.out)).trans HL0.out
  have hd1 := (hb1.block w.heap.size (lt_of_block HD0.out)).trans HD0.out
  have r0 := cell_at (i := 0) (v := .int .i64 5) hl1 rfl
  have r1 := cell_at (i := 1) (v := .int .i64 1) hl1 rfl
  have t2 := cell_at (i := 2) (v := .slice (some ⟨b, 0, none⟩) 3 cap) hd1 rfl
  clear hb1 dl hl1 hd1
  go_wp2_with fail
  clear r0 r1 t2
  go_loopw [12, 13] (fun v k wr => ((v = .int .i64 (-1) ∧ k = .int .i64 2) ∨ (v = .int .i64 2 ∧ k = .int .i64 1) ∨ (v = .int .i64 1 ∧ k = .int .i64 0) ∨ (v = .int .i64 0 ∧ k = .int .i64 (-1))) ∧ Below W0.heap.size W0 wr) (fun _ k _ => (intOf k + 1).toNat)
  case atStart => exact ⟨Or.inl ⟨rfl, rfl⟩, HB1.out⟩
  case round =>
    clear HB1
    obtain ⟨hc, hb⟩ := hrel
    have HB := Lib.hid hb
    have hd := (hb.block w.heap.size (lt_of_block HD0.out)).trans HD0.out
    have hl := (hb.block (w.heap.size + 1) (lt_of_block HL0.out)).trans HL0.out
    have r0 := cell_at (i := 0) (v := .int .i64 5) hl rfl
    have t2 := cell_at (i := 2) (v := .slice (some ⟨b, 0, none⟩) 3 cap) hd rfl
    have HBF := Lib.hid (HBW.out.trans (hb.mono HBW.out.size))
    have hz := HZ.out.below (HBF.out.mono hB)
    have HZ1 := Lib.hid hz
    have HD := Lib.hid hd
    have HL := Lib.hid hl
    clear hb hd hl
    rcases hc with ⟨rfl, rfl⟩ | ⟨rfl, rfl⟩ | ⟨rfl, rfl⟩ | ⟨rfl, rfl⟩
    · have x0 : wr.cell? ⟨b, 10, none⟩ = some (.int .i64 0) := hz.c0 2 (by decide)
      have hdr : wr.drew.heap[w.heap.size]? = some (.cells (tab0 b cap) 24 (0, 0)) := HD.out
      have t2d := cell_at (i := 2) (v := .slice (some ⟨b, 0, none⟩) 3 cap) hdr rfl
      have hzd : Zer wr.drew B b := ⟨hz.lt, hz.c0, hz.c1, hz.c2, hz.c3, hz.c4⟩
      have dl0 : (loadLab ⟨b, 10, none⟩).run Tryz.prog wr.drew = .ok (.agg #[.int .i64 0, .int .i64 0, .string ⟨#[]⟩, .string ⟨#[]⟩, .slice none 0 0]) wr.drew := loadLab_mid (hzd.c0 2 (by decide)) (hzd.c1 2 (by decide)) (hzd.c2 2 (by decide)) (hzd.c3 2 (by decide)) (hzd.c4 2 (by decide))
      clear hz hzd hdr
      go_wp2_with fail
      go_region
      go_wp2_with fail
      refine (HE.out _).mono ?_
      rintro e w2 ⟨rfl, hb2⟩
      have HB2 := Lib.hid (HB.out.trans ((show Below wr.heap.size wr w2 from below_drew1.trans hb2).mono HB.out.size))
      clear hb2 dl0 t2d
      go_wp2_with fail
      go_roundw
      case rel => exact ⟨Or.inr (Or.inl ⟨rfl, by go_num⟩), HB2.out⟩
      case measure => simp [intOf]
    · have x0 : wr.cell? ⟨b, 5, none⟩ = some (.int .i64 0) := hz.c0 1 (by decide)
      have hdr : wr.drew.heap[w.heap.size]? = some (.cells (tab0 b cap) 24 (0, 0)) := HD.out
      have t2d := cell_at (i := 2) (v := .slice (some ⟨b, 0, none⟩) 3 cap) hdr rfl
      have hzd : Zer wr.drew B b := ⟨hz.lt, hz.c0, hz.c1, hz.c2, hz.c3, hz.c4⟩
      have dl0 : (loadLab ⟨b, 5, none⟩).run Tryz.prog wr.drew = .ok (.agg #[.int .i64 0, .int .i64 0, .string ⟨#[]⟩, .string ⟨#[]⟩, .slice none 0 0]) wr.drew := loadLab_mid (hzd.c0 1 (by decide)) (hzd.c1 1 (by decide)) (hzd.c2 1 (by decide)) (hzd.c3 1 (by decide)) (hzd.c4 1 (by decide))
      clear hz hzd hdr
      go_wp2_with fail
      go_region
      go_wp2_with fail
      refine (HE.out _).mono ?_
      rintro e w2 ⟨rfl, hb2⟩
      have HB2 := Lib.hid (HB.out.trans ((show Below wr.heap.size wr w2 from below_drew1.trans hb2).mono HB.out.size))
      clear hb2 dl0 t2d
      go_wp2_with fail
      go_roundw
      case rel => exact ⟨Or.inr (Or.inr (Or.inl ⟨rfl, by go_num⟩)), HB2.out⟩
      case measure => simp [intOf]
    · have x0 : wr.cell? ⟨b, 0, none⟩ = some (.int .i64 0) := hz.c0 0 (by decide)
      have hdr : wr.drew.heap[w.heap.size]? = some (.cells (tab0 b cap) 24 (0, 0)) := HD.out
      have t2d := cell_at (i := 2) (v := .slice (some ⟨b, 0, none⟩) 3 cap) hdr rfl
      have hzd : Zer wr.drew B b := ⟨hz.lt, hz.c0, hz.c1, hz.c2, hz.c3, hz.c4⟩
      have dl0 : (loadLab ⟨b, 0, none⟩).run Tryz.prog wr.drew = .ok (.agg #[.int .i64 0, .int .i64 0, .string ⟨#[]⟩, .string ⟨#[]⟩, .slice none 0 0]) wr.drew := loadLab_mid (hzd.c0 0 (by decide)) (hzd.c1 0 (by decide)) (hzd.c2 0 (by decide)) (hzd.c3 0 (by decide)) (hzd.c4 0 (by decide))
      clear hz hzd hdr
      go_wp2_with fail
      go_region
      go_wp2_with fail
      refine (HE.out _).mono ?_
      rintro e w2 ⟨rfl, hb2⟩
      have HB2 := Lib.hid (HB.out.trans ((show Below wr.heap.size wr w2 from below_drew1.trans hb2).mono HB.out.size))
      clear hb2 dl0 t2d
      go_wp2_with fail
      go_roundw
      case rel => exact ⟨Or.inr (Or.inr (Or.inr ⟨rfl, by go_num⟩)), HB2.out⟩
      case measure => simp [intOf]
    · have dlt := loadTab_at HD.out rfl
      simp only [tab0] at dlt
      clear hz r0 t2
      go_wp2_with fail
      refine (HF.out _ HZ1.out (Nat.le_trans hB HBF.out.size)).mono ?_
      rintro e w2 ⟨ra, rc, rfl, hR, hb2⟩
      have HB2 := Lib.hid (HBF.out.trans (hb2.mono HBF.out.size))
      have HD2 := Lib.hid ((hb2.block w.heap.size (lt_of_block HD.out)).trans HD.out)
      have HL2 := Lib.hid ((hb2.block (w.heap.size + 1) (lt_of_block HL.out)).trans HL.out)
      have hrr := (HB.out.block (w.heap.size + 1 + 1) (lt_of_block HR0.out)).trans HR0.out
      have HR2 := Lib.hid ((hb2.block (w.heap.size + 1 + 1) (lt_of_block hrr)).trans hrr)
      have HAA := Lib.hid (HA.out w2 ra rc hR)
      clear hb2 dlt hR hrr
      go_wp2_with fail
      refine HAA.out.mono ?_
      rintro e w3 ⟨rb, rc2, rfl, hR3, hfr, hb3⟩
      have HB3 := Lib.hid (HB2.out.trans (hb3.mono HB2.out.size))
      have hd3 := (hb3.block w.heap.size (lt_of_block HD2.out)).trans HD2.out
      have hl3 := (hb3.block (w.heap.size + 1) (lt_of_block HL2.out)).trans HL2.out
      have HR3 := Lib.hid ((hb3.block (w.heap.size + 1 + 1) (lt_of_block HR2.out)).trans HR2.out)
      have HRR := Lib.hid hR3
      have dlt := loadTab_at hd3 rfl
      simp only [tab0] at dlt
      have r0 := cell_at (i := 0) (v := .int .i64 5) hl3 rfl
      have r1 := cell_at (i := 1) (v := .int .i64 1) hl3 rfl
      have HPP := Lib.hid (HP.out w3 (.slice rb 1 rc2) (HZ.out.below (HB3.out.mono hB)) (Nat.le_trans hB HB3.out.size) (by simp [Value.oneCell']))
      clear hb3 hd3 hl3 hR3
      go_wp2_with fail
      refine HPP.out.mono ?_
      rintro e w4 ⟨g, c, rfl, hgl, hgs, hrg, hb4⟩
      have hr4 := (hb4.block (w.heap.size + 1 + 1) (lt_of_block HR3.out)).trans HR3.out
      have st := storeTab_at (cs := tab0 g c) hr4 rfl rfl (by simp [Value.oneCell'])
      have HG := Lib.hid (setRow_heap w4 _ _ (tab0 g c) _ _ hr4)
      have HB4 := Lib.hid (HB3.out.trans (hb4.mono HB3.out.size))
      have HLB := Lib.hid (show ExAt w.heap.size (w4.setRow (w.heap.size + 1 + 1) (tab0 g c)) g by
        have hlt3 := lt_of_block HR3.out
        have s3 := HB3.out.size
        have s4 := hb4.size
        intro W' hW1 hW2
        have hsz : (w4.setRow (w.heap.size + 1 + 1) (tab0 g c)).heap.size = w4.heap.size := by simp
        rw [hsz] at hW1 hW2
        have hk : ∀ k, w.heap.size + 1 + 1 < k → k < w4.heap.size → W'.heap[k]? = w4.heap[k]? := fun k h1 h2 => (hW2 k (by omega) h2).trans (setRow_other _ _ _ _ (by omega))
        refine labs_ex (ra := rb) (rc := rc2) (by omega) ?_ ?_
        · intro j v hv
          rw [World.cell?_of_block (w := w4) (a := ⟨g, 0 + j, none⟩) (hk g (by omega) hgs)]
          exact hrg j v hv
        · refine runs_blk HRR.out (by omega) (fun p hp hlt => ?_)
          have h1 := hfr p hp
          have h2 := lt_of_block HR2.out
          exact (hk p.block (by omega) (by omega)).trans (hb4.block _ hlt))
      clear hrg hb4 hr4 hfr dlt r0 r1 hgl hgs
      go_wp2_with fail
      refine ret_tab2 (cs := tab0 g c) rfl rfl rfl rfl rfl HG.out ?_
      exact ⟨g, c, rfl, HLB.out, Below.setRow HB4.out (by omega) _⟩

end Go.Proofs.YtcidbmldbikknaaGreatDoor

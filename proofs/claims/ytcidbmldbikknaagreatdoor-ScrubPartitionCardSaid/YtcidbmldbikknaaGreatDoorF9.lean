/-
  Walk: the table of three empty labels with another label in its first slot, by the reference. Condition: the table lies in memory.
-/
import Derived.Test.YtcidbmldbikknaaGreatDoorFA
import Derived.Deep.MidRow
namespace Go.Proofs.YtcidbmldbikknaaGreatDoor
open Go.RowKit Go.Sort

def storeTab (p : Addr) (v : Value) : Sem Unit := storeVar 24 p v
theorem storeTab_down (p : Addr) (v : Value) : storeVar 24 p v = storeTab p v := rfl
theorem storeTab_at {w : World} {g : Nat} {cs : Array Value} {t : TypeId} {old : Array Value} (hg : w.heap[g]? = some (.cells old t (0, 0))) (hi : cs.size = 3) (ho : old.size = cs.size) (h1 : cs.all (·.oneCell') = true) : (storeTab ⟨g, 0, none⟩ (.agg cs)).run Tryz.prog w = .ok () (w.setRow g cs) :=
  run_storeVar_row (P := Tryz.prog) w g t 24 old cs hg (by rw [info_tab, hi]) ho h1
theorem ret_tab {fn : Func} {R : Ending → World → Prop} {a : Act} {w : World} {p : Tmp} {rb : Nat} {cs : Array Value} (hf : fn.results = #[.cell p 24]) (hp : a.tmps.getD p undef = .pointer (some ⟨rb, 0, none⟩)) (hd : a.defers = [])
    (hi : cs.size = 3) (hg : w.heap[rb]? = some (.cells cs 24 (0, 0))) (hR : R (.returned (.agg cs)) w) : bodyPost Tryz.prog fn R .ret a w :=
  bodyPost_ret (results_cell_row hf _ _ rb 24 _ (0, 0) _ hp hg Tryz.underlying24 rfl (by rw [info_tab, hi])) hd hR
theorem ret_tab2 {fn : Func} {R : Ending → World → Prop} {a : Act} {w : World} {p u : Tmp} {rb : Nat} {cs : Array Value} {x : Value} (hf : fn.results = #[.cell p 24, .tmp u]) (hp : a.tmps.getD p undef = .pointer (some ⟨rb, 0, none⟩)) (hu : a.tmps.getD u undef = x) (hd : a.defers = [])
    (hi : cs.size = 3) (hg : w.heap[rb]? = some (.cells cs 24 (0, 0))) (hR : R (.returned (.tuple #[.agg cs, x])) w) : bodyPost Tryz.prog fn R .ret a w := by
  have hp' : a.tmps[p]?.getD undef = .pointer (some ⟨rb, 0, none⟩) := by simpa using hp
  have hu' : a.tmps[u]?.getD undef = x := by simpa using hu
  refine bodyPost_ret ?_ hd hR
  simp [results, hf, hp', hu', asAddr, run_loadVar_row w rb 24 24 cs (0, 0) _ hg Tryz.underlying24 rfl (by rw [info_tab, hi])]
theorem storeLab_mid {w : World} {b o : Nat} {cs : Array Value} (ht : w.there b o 5) (hi : cs.size = 5) (h1 : cs.all (·.oneCell') = true) : (storeLab ⟨b, o, none⟩ (.agg cs)).run Tryz.prog w = .ok () (w.setCells b o cs.toList) :=
  run_storeVar_mid (P := Tryz.prog) w b o 43 cs (by rw [hi]; exact ht) (by rw [info_lab, hi]) h1
theorem infoL : (Tryz.prog.info? 43).map (fun i => (i.zero, i.size, i.bytes)) = some (some (.agg #[.int .i64 0, .int .i64 0, .string ⟨#[]⟩, .string ⟨#[]⟩, .slice none 0 0]), 5, 72) := by kernel_rfl
attribute [local go_sem ↓] loadRn_down storeRn_down loadLab_down storeLab_down loadTab_down storeTab_down

theorem only_setCells {S : List Nat} {w : World} (b : Nat) (hb : b ∈ S) : ∀ (vs : List Value) (o : Nat) (W : World), Only S w W → Only S w (W.setCells b o vs)
  | [], _, _, h => h
  | v :: vs, o, W, h => only_setCells b hb vs (o + 1) (W.setCell ⟨b, o, none⟩ v) (h.setCell (Or.inl hb) v)
def zer5 : List Value := [.int .i64 0, .int .i64 0, .string ⟨#[]⟩, .string ⟨#[]⟩, .slice none 0 0]
def zer15 : List Value := zer5 ++ (zer5 ++ zer5)
theorem zer_news {w : World} {B b : Nat} (h : Zer w B b) : ∀ (j : Nat) (u : Value), zer15[j]? = some u → w.cell? ((⟨b, 0, none⟩ : Addr).add j) = some u := by
  intro j u hu
  rw [add_plain, Nat.zero_add]
  have hj : j < 15 := by
    obtain ⟨h1, _⟩ := List.getElem?_eq_some_iff.1 hu
    simpa [zer15, zer5] using h1
  have := h.c0 0 (by omega); have := h.c1 0 (by omega); have := h.c2 0 (by omega); have := h.c3 0 (by omega); have := h.c4 0 (by omega)
  have := h.c0 1 (by omega); have := h.c1 1 (by omega); have := h.c2 1 (by omega); have := h.c3 1 (by omega); have := h.c4 1 (by omega)
  have := h.c0 2 (by omega); have := h.c1 2 (by omega); have := h.c2 2 (by omega); have := h.c3 2 (by omega); have := h.c4 2 (by omega)
  rcases (show j = 0 ∨ j = 1 ∨ j = 2 ∨ j = 3 ∨ j = 4 ∨ j = 5 ∨ j = 6 ∨ j = 7 ∨ j = 8 ∨ j = 9 ∨ j = 10 ∨ j = 11 ∨ j = 12 ∨ j = 13 ∨ j = 14 by omega) with rfl | rfl | rfl | rfl | rfl | rfl | rfl | rfl | rfl | rfl | rfl | rfl | rfl | rfl | rfl <;>
    (simp [zer15, zer5] at hu; subst hu; assumption)

set_option maxRecDepth 100000 in
set_option maxHeartbeats 8000000 in
theorem put_zero (w : World) (B b cap : Nat) (x0 x1 x2 x3 x4 : Value) (h : Zer w B b) (hB : B ≤ w.heap.size) (hx : (#[x0, x1, x2, x3, x4] : Array Value).all (·.oneCell') = true) :
    Calls Tryz.prog 87 #[.agg (tab0 b cap), .int .i64 0, .agg #[x0, x1, x2, x3, x4]] w fun e w' => ∃ g c, e = .returned (.agg (tab0 g c)) ∧ w.heap.size ≤ g ∧ g < w'.heap.size ∧ w'.rangeAt g 0 ([x0, x1, x2, x3, x4] ++ (zer5 ++ zer5)) ∧ Below w.heap.size w w' := by
  obtain ⟨i0, hi0, hz0, hz1, hz2⟩ := info_parts infoL
  obtain ⟨W0, hW0⟩ : ∃ W0, W0 = ((w.alloc (.cells (tab0 b cap) 24)).alloc (.cells #[x0, x1, x2, x3, x4] 43)).alloc (.cells #[.string ⟨#[]⟩, .int .i64 0, .slice none 0 0] 24) := ⟨_, rfl⟩
  have hb0 : Below w.heap.size w W0 := by rw [hW0]; exact (((Below.refl _ _).alloc (by simp) _).alloc (by simp) _).alloc (by simp; omega) _
  have hs0 : W0.heap.size = w.heap.size + 3 := by rw [hW0]; simp
  have hd0 : W0.heap[w.heap.size]? = some (.cells (tab0 b cap) 24 (0, 0)) := by
    rw [hW0]
    exact (halloc _ _ (by simp; omega)).trans ((halloc _ _ (by simp)).trans (heap_alloc_new _ _))
  have hl0 : W0.heap[w.heap.size + 1]? = some (.cells #[x0, x1, x2, x3, x4] 43 (0, 0)) := by
    rw [hW0]
    exact (halloc _ _ (by simp)).trans (two_new _ _ _ _ _)
  have hr0 : W0.heap[w.heap.size + 1 + 1]? = some (.cells #[.string ⟨#[]⟩, .int .i64 0, .slice none 0 0] 24 (0, 0)) := by
    rw [hW0]
    have := heap_alloc_new ((w.alloc (.cells (tab0 b cap) 24)).alloc (.cells #[x0, x1, x2, x3, x4] 43)) (.cells #[.string ⟨#[]⟩, .int .i64 0, .slice none 0 0] 24)
    have e : ((w.alloc (.cells (tab0 b cap) 24)).alloc (.cells #[x0, x1, x2, x3, x4] 43)).heap.size = w.heap.size + 1 + 1 := by simp
    rw [e] at this; exact this
  have ho0 : (W0.alloc (.cells #[] 43)).ownsRow W0.heap.size 43 5 (.slice (some ⟨W0.heap.size, 0, none⟩) 0 0) 0 [] := World.ownsRow_lit W0 #[] 0 (Nat.le_refl _) (by simp [maxLen]) rfl
  have hbA : Below W0.heap.size W0 (W0.alloc (.cells #[] 43)) := box_below W0 _ _
  have hzA := h.below (((hb0.trans (hbA.mono hb0.size))).mono hB)
  obtain ⟨WA, hWA⟩ : ∃ WA, WA = W0.alloc (.cells #[] 43) := ⟨_, rfl⟩
  rw [← hWA] at ho0 hbA hzA
  have hdA := (hbA.block w.heap.size (lt_of_block hd0)).trans hd0
  have t2 := cell_at (i := 2) (v := .slice (some ⟨b, 0, none⟩) 3 cap) hdA rfl
  have hs3 : W0.heap.size = w.heap.size + 1 + 1 + 1 := hs0
  rw [hs3] at ho0
  have HWA := Lib.hid (show WA = (((w.alloc (.cells (tab0 b cap) 24)).alloc (.cells #[x0, x1, x2, x3, x4] 43)).alloc (.cells #[.string ⟨#[]⟩, .int .i64 0, .slice none 0 0] 24)).alloc (.cells #[] 43) by rw [hWA, hW0])
  have hnw := zer_news hzA
  have HBA := Lib.hid (hb0.trans (hbA.mono hb0.size))
  have HDA := Lib.hid hdA
  have HLA := Lib.hid ((hbA.block (w.heap.size + 1) (lt_of_block hl0)).trans hl0)
  have HRA := Lib.hid ((hbA.block (w.heap.size + 1 + 1) (lt_of_block hr0)).trans hr0)
  have HSA := Lib.hid (show w.heap.size + 1 + 1 + 1 ≤ WA.heap.size by rw [← hs3]; exact hbA.size)
  have HX := Lib.hid hx
  have hoA := own_slice ho0
  have HOA := Lib.hid ho0
  have HNW := Lib.hid hnw
  rw [HWA.out] at ho0 hnw t2
  have HOE := Lib.hid ho0
  have HNE := Lib.hid hnw
  clear h hWA hW0 hb0 hd0 hl0 hr0 hbA hzA hdA hs0 hs3 hx ho0 hnw hoA
  go_enter Tryz.func87, Tryz.ntmps87
  go_wp2_with (refine wpList_append_own _ rfl _ _ 22 rfl (w.heap.size + 1 + 1 + 1) 43 i0 (.agg #[.int .i64 0, .int .i64 0, .string ⟨#[]⟩, .string ⟨#[]⟩, .slice none 0 0]) 5 72 Tryz.underlying22 hi0 hz0 hz1 hz2 rfl (by decide) _ _ _ rfl HOE.out _ 3 _ zer15 rfl rfl HNE.out ?b2 ?b3 ?b4 ?b5 ?_)
  try (case b2 => simp [zer15, zer5, Value.oneCell'])
  try (case b3 => unfold maxLen; omega)
  try (case b4 => omega)
  try (case b5 => rw [← HWA.out]; exact HSA.out)
  intro v6 w6 ho6 hg6 _
  rw [← HWA.out] at hg6
  have HB6 := Lib.hid (HBA.out.grown hg6 HBA.out.size (fun k hk => by have := row_own HOA.out hk; omega))
  have hd6 := (hg6.block w.heap.size (lt_of_block HDA.out) (fun e => by have := row_own HOA.out e.symm; omega)).trans HDA.out
  have hl6 := (hg6.block (w.heap.size + 1) (lt_of_block HLA.out) (fun e => by have := row_own HOA.out e.symm; omega)).trans HLA.out
  have hr6 := (hg6.block (w.heap.size + 1 + 1) (lt_of_block HRA.out) (fun e => by have := row_own HOA.out e.symm; omega)).trans HRA.out
  obtain ⟨a6, c6, rfl⟩ := row_slice ho6
  obtain ⟨g, cap2, hfm⟩ := ho6.form (by omega)
  obtain ⟨⟨rfl, rfl⟩, hgl, hgs⟩ : (a6 = some ⟨g, 0, none⟩ ∧ c6 = cap2) ∧ w.heap.size + 1 + 1 + 1 ≤ g ∧ g < w6.heap.size := by simpa using hfm
  have k2 := cell_at (i := 2) (v := .slice (some ⟨b, 0, none⟩) 3 cap) hd6 rfl
  have z2 := free_at hd6 2
  have hfm2 := hfm.2
  obtain ⟨W7, hW7⟩ : ∃ W7, W7 = w6.setCell ⟨w.heap.size, 2, none⟩ (.slice (some ⟨g, 0, none⟩) 3 c6) := ⟨_, rfl⟩
  have hd7 : W7.heap[w.heap.size]? = some (.cells (tab0 g c6) 24 (0, 0)) := by rw [hW7]; exact cell_row_any _ _ _ _ _ _ _ hd6
  have hb7 : Below w.heap.size w W7 := by rw [hW7]; exact Below.setCell HB6.out (Nat.le_refl _) _
  have ho7 : Only [w.heap.size] w6 W7 := by rw [hW7]; exact (Only.refl _ _).setCell (by simp) _
  have hl7 := ho7.heap hl6 (by simp)
  have hr7 := ho7.heap hr6 (by simp; omega)
  have hcells : ∀ j, j < 15 → W7.cell? ⟨g, j, none⟩ = zer15[j]? := fun j hj =>
    (ho7.cell (p := ⟨g, j, none⟩) hgs (by simp; omega)).trans (ho6.cellAt j (by omega))
  have hfz : ∀ j, W7.frozen? ⟨g, j, none⟩ = false := fun j =>
    (World.frozen?_of_block (w := w6) (a := ⟨g, j, none⟩) (ho7.block g hgs (by simp; omega))).trans (ho6.frozenAt j)
  have hthere : W7.there g 0 5 := fun j hj => by
    rw [Nat.zero_add]
    refine ⟨?_, hfz j⟩
    rw [hcells j (by omega)]
    rcases (show j = 0 ∨ j = 1 ∨ j = 2 ∨ j = 3 ∨ j = 4 by omega) with rfl | rfl | rfl | rfl | rfl <;> rfl
  have hrange : W7.rangeAt g 5 (zer5 ++ zer5) := fun j v hv => by
    have hj : j < 10 := by
      obtain ⟨h1, _⟩ := List.getElem?_eq_some_iff.1 hv
      simpa [zer5] using h1
    rw [hcells (5 + j) (by omega), ← hv]
    show (zer5 ++ (zer5 ++ zer5))[5 + j]? = _
    rw [List.getElem?_append_right (by simp [zer5])]
    congr 1
    simp [zer5]
  obtain ⟨W8, hW8⟩ : ∃ W8, W8 = W7.setCells g 0 [x0, x1, x2, x3, x4] := ⟨_, rfl⟩
  have st8 : (storeLab ⟨g, 0, none⟩ (.agg #[x0, x1, x2, x3, x4])).run Tryz.prog W7 = .ok () W8 := by rw [hW8]; exact storeLab_mid hthere rfl HX.out
  have hr8 : W8.rangeAt g 0 ([x0, x1, x2, x3, x4] ++ (zer5 ++ zer5)) := by
    rw [hW8]
    have q1 := World.rangeAt_setCells_same W7 g 0 [x0, x1, x2, x3, x4] hthere
    have q2 := World.rangeAt_setCells_apart hrange g 0 [x0, x1, x2, x3, x4] (Or.inr (Or.inr (by simp)))
    intro j v hv
    by_cases hj : j < 5
    · rw [List.getElem?_append_left (by simpa using hj)] at hv
      exact q1 j v hv
    · rw [List.getElem?_append_right (by simp; omega)] at hv
      have := q2 _ v hv
      rwa [show 5 + (j - [x0, x1, x2, x3, x4].length) = 0 + j by simp; omega] at this
  have ho8 : Only [g] W7 W8 := by rw [hW8]; exact only_setCells g (by simp) _ _ _ (Only.refl _ _)
  have hb8 : Below w.heap.size w W8 := hb7.trans (ho8.below hb7.size (fun k hk => by simp at hk; omega))
  have hd8 := ho8.heap hd7 (by simp; omega)
  have hr8' := ho8.heap hr7 (by simp; omega)
  have hs8 : g < W8.heap.size := Nat.lt_of_lt_of_le (Nat.lt_of_lt_of_le hgs ho7.size) ho8.size
  have HR8 := Lib.hid hr8
  have HB8 := Lib.hid hb8
  have HS8 := Lib.hid hs8
  have u2 := cell_at (i := 2) (v := .slice (some ⟨g, 0, none⟩) 3 c6) hd7 rfl
  have dl7 := loadLab_at hl7 rfl
  have dl8 := loadTab_at hd8 rfl
  have st9 := storeTab_at (cs := tab0 g c6) hr8' rfl rfl (by simp [Value.oneCell'])
  have HG9 := Lib.hid (setRow_heap W8 _ _ (tab0 g c6) _ _ hr8')
  have hgl2 : g ≠ w.heap.size + 1 + 1 := by omega
  have HGL := Lib.hid hgl2
  have HGW := Lib.hid (show w.heap.size ≤ g by omega)
  simp only [tab0] at dl8 st9
  rw [hW7] at u2 dl7 st8
  clear hs8 ho8 hgl2 hfm hfm2 hd7 hb7 ho7 hl7 hr7 hcells hfz hthere hrange hW8 hr8 hb8 hd8 hr8' ho6 hg6 hd6 hl6 hr6 hW7 t2 hgl hgs
  go_wp2_with fail
  refine ret_tab (cs := tab0 g c6) rfl rfl rfl rfl HG9.out ?_
  refine ⟨g, c6, rfl, HGW.out, by simpa using HS8.out, ?_, Below.setRow HB8.out (by omega) _⟩
  intro j v hv
  rw [cell_setRow_other _ _ _ _ HGL.out]
  exact HR8.out j v hv

end Go.Proofs.YtcidbmldbikknaaGreatDoor

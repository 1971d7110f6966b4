/-
  Walks: the slot of a reference, a copy of extents, the label of a reference, by the program. Conditions: a table in memory; numbers of 64 bits.
  Walks: the label of a reference, by the program; the numbers of bytes of all labels, by the program and the reference. Conditions: a table in memory; numbers of 64 bits.
-/
import Derived.Test.YtcidbmldbikknaaGreatDoorG6
import Derived.Test.YtcidbmldbikknaaGreatDoorF10
namespace Go.Proofs.YtcidbmldbikknaaGreatDoor

section
open Go.RowKit Go.Sort
attribute [local go_sem ↓] loadTab_down loadLab_down storeLab_down

set_option maxRecDepth 100000 in
set_option maxHeartbeats 2000000 in
theorem match_any (x0 x1 r1 r2 : Int) (x2 x3 x4 : Value) (rb : Nat) (w : World) (hr : w.heap[rb]? = some (.cells #[.int .i64 r1, .int .i64 r2] 40 (0, 0))) :
    Calls Tryz.prog 80 #[.agg #[.int .i64 x0, .int .i64 x1, x2, x3, x4], .pointer (some ⟨rb, 0, none⟩)] w fun e w' => e = .returned (.bool (decide (r1 ≠ 0) && (decide (x0 = r1) && decide (x1 = r2)))) ∧ Below w.heap.size w w' := by
  have hb := box_below w #[.int .i64 x0, .int .i64 x1, x2, x3, x4] 43
  have hg := heap_alloc_new w (.cells #[.int .i64 x0, .int .i64 x1, x2, x3, x4] 43)
  have hr2 := (hb.block rb (lt_of_block hr)).trans hr
  have a0 := cell_at (i := 0) (v := .int .i64 x0) hg rfl
  have a1 := cell_at (i := 1) (v := .int .i64 x1) hg rfl
  have q0 := cell_at (i := 0) (v := .int .i64 r1) hr2 rfl
  have q1 := cell_at (i := 1) (v := .int .i64 r2) hr2 rfl
  have HB := Lib.hid hb
  have HF := Lib.hid (show (decide (r1 ≠ 0) && (decide (x0 = r1) && decide (x1 = r2))) = (decide (r1 ≠ 0) && (decide (x0 = r1) && decide (x1 = r2))) from rfl)
  generalize hq : (decide (r1 ≠ 0) && (decide (x0 = r1) && decide (x1 = r2))) = q
  clear HF hb hg hr hr2
  by_cases h1 : r1 = 0
  · have HQ := Lib.hid (show q = false by rw [← hq]; simp [h1])
    have e1 : (r1 != 0) = false := by simp [h1]
    clear hq
    go_enter Tryz.func80, Tryz.ntmps80
    go_wp2_with fail
    go_ret
    rw [HQ.out]
    exact ⟨rfl, HB.out⟩
  · have e1 : (r1 != 0) = true := by simp [h1]
    by_cases h2 : x0 = r1
    · have e2 : (x0 == r1) = true := by simp [h2]
      by_cases h3 : x1 = r2
      · have e3 : (x1 == r2) = true := by simp [h3]
        have HQ := Lib.hid (show q = true by rw [← hq]; simp [h1, h2, h3])
        clear hq h1 h2 h3
        go_enter Tryz.func80, Tryz.ntmps80
        go_wp2_with fail
        go_ret
        rw [HQ.out]
        exact ⟨rfl, HB.out⟩
      · have e3 : (x1 == r2) = false := by simp [h3]
        have HQ := Lib.hid (show q = false by rw [← hq]; simp [h3])
        clear hq h1 h2 h3
        go_enter Tryz.func80, Tryz.ntmps80
        go_wp2_with fail
        go_ret
        rw [HQ.out]
        exact ⟨rfl, HB.out⟩
    · have e2 : (x0 == r1) = false := by simp [h2]
      have HQ := Lib.hid (show q = false by rw [← hq]; simp [h2])
      clear hq h1 h2
      go_enter Tryz.func80, Tryz.ntmps80
      go_wp2_with fail
      go_ret
      rw [HQ.out]
      exact ⟨rfl, HB.out⟩

set_option maxRecDepth 100000 in
set_option maxHeartbeats 4000000 in
theorem indexfunc_any (w : World) (B : Nat) (a : Option Addr) (cap : Nat) (l : List Lab) (r1 r2 : Int) (rb : Nat) (h : Labs w B a l) (hB : B ≤ w.heap.size) (hl : l.length ≤ 1000) (hr : w.heap[rb]? = some (.cells #[.int .i64 r1, .int .i64 r2] 40 (0, 0))) :
    Calls Tryz.prog 79 #[.slice a l.length cap, .func (.func 80) #[] #[.pointer (some ⟨rb, 0, none⟩)]] w fun e w' => e = .returned (slotV (slotP (r1, r2) l 0)) ∧ Below w.heap.size w w' := by
  have HT0 := Lib.hid (show slotP (r1, r2) l 0 = slotP (r1, r2) (l.drop 0) 0 from rfl)
  generalize slotP (r1, r2) l 0 = T at HT0 ⊢
  have HL := Lib.hid h
  have HR := Lib.hid hr
  clear h hr
  go_enter Tryz.func79, Tryz.ntmps79
  go_wp2_with fail
  go_loopw [8] (fun k wr => ∃ j : Nat, j ≤ l.length ∧ k = .int .i64 j ∧ T = slotP (r1, r2) (l.drop j) j ∧ Below w.heap.size w wr) (fun k _ => l.length - (intOf k).toNat)
  case atStart => exact ⟨0, by omega, rfl, HT0.out, Below.refl _ _⟩
  case round =>
    clear HT0
    obtain ⟨j, hj, rfl, hT, hb⟩ := hrel
    have HB := Lib.hid hb
    have hrr := (hb.block rb (lt_of_block HR.out)).trans HR.out
    by_cases hlt : j < l.length
    · have hltI : (j : Int) < (l.length : Int) := by omega
      obtain ⟨b, off, rfl, hbb, hLA⟩ := HL.out.get hlt
      have hla := hLA.below (hb.mono hB) hbb
      rw [List.drop_eq_getElem_cons hlt, slotP] at hT
      clear hLA hb
      generalize l[j] = x at hT hla
      obtain ⟨ea, ec, h4, _⟩ := hla.c4
      have dl0 := loadLab_mid hla.c0 hla.c1 hla.c2 hla.c3 h4
      have HM := Lib.hid (match_any x.id x.unit r1 r2 (sv x.name) (sv x.note) (.slice ea x.ext.length ec) rb wr hrr)
      rw [show (decide (r1 ≠ 0) && (decide (x.id = r1) && decide (x.unit = r2))) = matchR (r1, r2) x from rfl] at HM
      clear hla h4 hrr
      generalize sv x.name = nv at *
      generalize sv x.note = nv2 at *
      generalize x.ext.length = en at *
      generalize x.id = xi at *
      generalize x.unit = xu at *
      generalize matchR (r1, r2) x = q at hT HM
      have HTT := Lib.hid hT
      clear hT
      go_wp2_with fail
      refine HM.out.mono ?_
      rintro e w2 ⟨rfl, hb2⟩
      have HB2 := Lib.hid (HB.out.trans (hb2.mono HB.out.size))
      clear hb2 dl0
      cases q with
      | true =>
        have HQ := Lib.hid (show T = some j by rw [HTT.out, if_pos rfl])
        go_wp2_with fail
        go_ret
        rw [HQ.out]
        exact ⟨rfl, HB2.out⟩
      | false =>
        have HQ := Lib.hid (show T = slotP (r1, r2) (l.drop (j + 1)) (j + 1) by rw [HTT.out, if_neg (by simp)])
        go_wp2_with fail
        go_roundw
        case rel => exact ⟨j + 1, by omega, by go_num, HQ.out, HB2.out⟩
        case measure => simp [intOf]; omega
    · have hltI : ¬ (j : Int) < (l.length : Int) := by omega
      have HQ := Lib.hid (show T = none by rw [hT, List.drop_eq_nil_of_le (by omega)]; rfl)
      clear hT hb hrr
      go_wp2_with fail
      go_ret
      rw [HQ.out]
      exact ⟨rfl, HB.out⟩

set_option maxRecDepth 100000 in
set_option maxHeartbeats 4000000 in
theorem slot_any (w : World) (B : Nat) (a : Option Addr) (cap : Nat) (nm : By) (tr : Int) (l : List Lab) (r1 r2 : Int) (h : Labs w B a l) (hB : B ≤ w.heap.size) (hl : l.length ≤ 1000) :
    Calls Tryz.prog 48 #[.agg (tabC nm tr a l.length cap), .agg #[.int .i64 r1, .int .i64 r2]] w fun e w' => e = .returned (slotV (slotP (r1, r2) l 0)) ∧ Below w.heap.size w w' := by
  obtain ⟨W0, hW0⟩ : ∃ W0, W0 = (w.alloc (.cells (tabC nm tr a l.length cap) 24)).alloc (.cells #[.int .i64 r1, .int .i64 r2] 40) := ⟨_, rfl⟩
  have hb0 : Below w.heap.size w W0 := by rw [hW0]; exact two_below w _ _ _ _
  have hd0 : W0.heap[w.heap.size]? = some (.cells (tabC nm tr a l.length cap) 24 (0, 0)) := by rw [hW0, halloc _ _ (by simp)]; exact heap_alloc_new w _
  have hr0 : W0.heap[w.heap.size + 1]? = some (.cells #[.int .i64 r1, .int .i64 r2] 40 (0, 0)) := by rw [hW0]; exact two_new w _ _ _ _
  have HB0 := Lib.hid hb0
  have HI := Lib.hid (indexfunc_any W0 B a cap l r1 r2 (w.heap.size + 1) (h.below (hb0.mono hB)) (Nat.le_trans hB hb0.size) hl hr0)
  have t2 := cell_at (i := 2) (v := .slice a l.length cap) hd0 rfl
  have hmf : ∀ (fn : Fn) (first cap : Array Value) (W : World), (Instr.makeFunc fn first cap).run Tryz.prog W = .ok (.func fn first cap) W := fun _ _ _ _ => rfl
  have HW0 := Lib.hid hW0
  generalize slotP (r1, r2) l 0 = T at HI ⊢
  rw [hW0] at t2
  clear h hb0 hd0 hr0 hW0
  go_enter Tryz.func48, Tryz.ntmps48
  go_wp2_with fail
  rw [← HW0.out]
  refine HI.out.mono ?_
  rintro e w1 ⟨rfl, hb1⟩
  have HB1 := Lib.hid (HB0.out.trans (hb1.mono HB0.out.size))
  clear hb1 t2
  cases T with
  | none =>
    simp only [slotV]
    go_wp2_with fail
    go_ret
    exact ⟨rfl, HB1.out⟩
  | some i =>
    simp only [slotV]
    go_wp2_with fail
    go_ret
    exact ⟨rfl, HB1.out⟩

set_option maxRecDepth 100000 in
set_option maxHeartbeats 4000000 in
theorem clone_any (w : World) (B : Nat) (a : Option Addr) (cap : Nat) (l : List Rn) (h : Runs w B a l) (hl : l.length ≤ 1000000) :
    Calls Tryz.prog 49 #[.slice a l.length cap] w fun e w' => ∃ ea ec, e = .returned (.slice ea l.length ec) ∧ Runs w' w'.heap.size ea l ∧ (∀ p, ea = some p → w.heap.size ≤ p.block) ∧ Below w.heap.size w w' := by
  obtain ⟨i0, hi0, hz0, hz1, hz2⟩ := info_parts infoRn
  cases a with
  | none =>
    have hln : l = [] := by
      rcases l with _ | ⟨x, l⟩
      · rfl
      · obtain ⟨b, off, hn, _⟩ := h.cells (by simp)
        cases hn
    subst hln
    have hq : ∀ W : World, (binOp .eql 41 (.slice none 0 cap) (.slice none 0 0)).run Tryz.prog W = .ok (.bool true) W := fun _ => by kernel_rfl
    clear h
    go_enter Tryz.func49, Tryz.ntmps49
    go_wp2_with fail
    go_ret
    exact ⟨none, 0, rfl, runs_nil _ _ _, (fun p hp => by cases hp), Below.refl _ _⟩
  | some p =>
    have hown : (w.alloc (.cells #[] 68)).ownsRow w.heap.size 68 2 (.slice (some ⟨w.heap.size, 0, none⟩) 0 0) 0 [] := World.ownsRow_lit w #[] 0 (Nat.le_refl _) (by simp [maxLen]) rfl
    have HOK := Lib.hid h.ok
    have HNW := Lib.hid (show ∀ (j : Nat) (u : Value), (refsF l)[j]? = some u → (w.alloc (.cells #[] 68)).cell? (p.add j) = some u from fun j u hu => by
      have hj : j < l.length * 2 := by have := (List.getElem?_eq_some_iff.1 hu).1; rw [refsF_len] at this; exact this
      have hi : j / 2 < l.length := by omega
      obtain ⟨b, off, hp, hbb, hx, hy⟩ := h.get hi
      obtain rfl : p = ⟨b, off, none⟩ := Option.some.inj hp
      rw [refsF_get l j hj, getElem!_pos l _ hi] at hu
      have hba := box_below w #[] 68
      rw [add_plain]
      rcases (show j % 2 = 0 ∨ j % 2 = 1 by omega) with h0 | h0
      · rw [h0] at hu
        have e : off + j = off + j / 2 * 2 := by omega
        rw [e, hba.cell (p := ⟨b, off + j / 2 * 2, none⟩) (block_lt_of_cell hx), hx]
        simpa [encR] using hu
      · rw [h0] at hu
        have e : off + j = off + j / 2 * 2 + 1 := by omega
        rw [e, hba.cell (p := ⟨b, off + j / 2 * 2 + 1, none⟩) (block_lt_of_cell hy), hy]
        simpa [encR] using hu)
    have hq : ∀ W : World, (binOp .eql 41 (.slice (some p) l.length cap) (.slice none 0 0)).run Tryz.prog W = .ok (.bool false) W := fun _ => by kernel_rfl
    clear h
    go_enter Tryz.func49, Tryz.ntmps49
    go_wp2_with (refine wpList_append_own _ rfl _ _ 41 rfl w.heap.size 68 i0 (.agg #[.int .i64 0, .int .i64 0]) 2 16 Tryz.underlying41 hi0 hz0 hz1 hz2 rfl (by decide) _ _ _ rfl hown _ l.length _ (refsF l) rfl (refsF_len l) HNW.out (one_refs l) ?b3 ?b4 ?b5 ?_)
    try (case b3 => unfold maxLen; omega)
    try (case b4 => omega)
    try (case b5 => simp)
    intro v6 w6 ho6 hg6 _
    have HB6 := Lib.hid ((box_below w #[] 68).grown hg6 (by simp) (fun k hk => row_own hown hk))
    have ho7 : w6.ownsRow w.heap.size 68 2 v6 l.length (refsF l) := ho6
    have HFR := Lib.hid (fun k (hk : v6.ownBlock = some k) => row_own ho7 hk)
    obtain ⟨ea, ec, rfl, hR⟩ := runs_of_row ho7 HOK.out
    have HR := Lib.hid hR
    clear ho6 hg6 ho7 hR hown
    go_wp2_with fail
    go_ret
    exact ⟨ea, ec, rfl, HR.out, fun q hq => HFR.out q.block (by rw [hq]; rfl), HB6.out⟩
end

section
open Go.RowKit Go.Sort
attribute [local go_sem ↓] loadTab_down loadLab_down storeLab_down loadRef_down storeRef_down

set_option maxRecDepth 100000 in
set_option maxHeartbeats 4000000 in
theorem find_any (w : World) (B : Nat) (a : Option Addr) (cap : Nat) (nm : By) (tr : Int) (l : List Lab) (r1 r2 : Int) (h : Labs w B a l) (hB : B ≤ w.heap.size) (hl : l.length ≤ 1000) (he : ∀ x ∈ l, x.ext.length ≤ 1000) :
    Calls Tryz.prog 18 #[.agg (tabC nm tr a l.length cap), .agg #[.int .i64 r1, .int .i64 r2]] w fun e w' => Found l (r1, r2) e w' ∧ Below w.heap.size w w' := by
  have HSL := Lib.hid (fun W h1 h2 => slot_any W B a cap nm tr l r1 r2 h1 h2 hl)
  have hlt := fun i h => slotP_lt (r1, r2) l 0 i h
  have HX := Lib.hid (show extP l (r1, r2) = match slotP (r1, r2) l 0 with
    | some i => match l[i]? with
      | some x => x.ext
      | none => []
    | none => [] from rfl)
  unfold Found
  generalize extP l (r1, r2) = X at HX ⊢
  generalize slotP (r1, r2) l 0 = T at HSL hlt HX
  have HL := Lib.hid h
  have HE := Lib.hid he
  obtain ⟨W0, hW0⟩ : ∃ W0, W0 = ((w.alloc (.cells (tabC nm tr a l.length cap) 24)).alloc (.cells #[.int .i64 r1, .int .i64 r2] 40)).alloc (.cells zeroV 43) := ⟨_, rfl⟩
  have hb0 : Below w.heap.size w W0 := by rw [hW0]; exact (((Below.refl _ _).alloc (by simp) _).alloc (by simp) _).alloc (by simp; omega) _
  have hd0 : W0.heap[w.heap.size]? = some (.cells (tabC nm tr a l.length cap) 24 (0, 0)) := by
    rw [hW0]
    exact (halloc _ _ (by simp; omega)).trans ((halloc _ _ (by simp)).trans (heap_alloc_new _ _))
  have hr0 : W0.heap[w.heap.size + 1]? = some (.cells #[.int .i64 r1, .int .i64 r2] 40 (0, 0)) := by
    rw [hW0]
    exact (halloc _ _ (by simp)).trans (two_new _ _ _ _ _)
  have hz0 : W0.heap[w.heap.size + 1 + 1]? = some (.cells zeroV 43 (0, 0)) := by
    rw [hW0]
    have := heap_alloc_new ((w.alloc (.cells (tabC nm tr a l.length cap) 24)).alloc (.cells #[.int .i64 r1, .int .i64 r2] 40)) (.cells zeroV 43)
    have e : ((w.alloc (.cells (tabC nm tr a l.length cap) 24)).alloc (.cells #[.int .i64 r1, .int .i64 r2] 40)).heap.size = w.heap.size + 1 + 1 := by simp
    rw [e] at this; exact this
  have HB0 := Lib.hid hb0
  have HD0 := Lib.hid hd0
  have HZ0 := Lib.hid hz0
  have dl := loadTab_at hd0 rfl
  have dr := loadRef_at hr0 rfl
  have HW0 := Lib.hid hW0
  rw [hW0] at dl dr
  clear h hb0 hd0 hr0 hz0 hW0 he
  go_enter Tryz.func18, Tryz.ntmps18
  go_wp2_with fail
  rw [← HW0.out]
  refine (HSL.out _ (HL.out.below (HB0.out.mono hB)) (Nat.le_trans hB HB0.out.size)).mono ?_
  rintro e w1 ⟨rfl, hb1⟩
  have HB1 := Lib.hid (HB0.out.trans (hb1.mono HB0.out.size))
  have hd1 := (hb1.block _ (lt_of_block HD0.out)).trans HD0.out
  have hz1 := (hb1.block _ (lt_of_block HZ0.out)).trans HZ0.out
  have t2 := cell_at (i := 2) (v := .slice a l.length cap) hd1 rfl
  have HZ1 := Lib.hid hz1
  clear hb1 hd1 hz1 dl dr
  cases T with
  | none =>
    have HXN := Lib.hid (show X = [] from HX.out)
    have st := storeLab_at (cs := zeroV) HZ1.out rfl rfl (by simp [Value.oneCell'])
    have HG := Lib.hid (setRow_heap _ _ _ zeroV _ _ HZ1.out)
    simp only [zeroV] at st
    clear hlt HX
    simp only [slotV]
    go_wp2_with fail
    refine ret_lab2 (cs := zeroV) rfl rfl rfl rfl rfl HG.out ?_
    rw [HXN.out]
    exact ⟨⟨_, _, _, _, none, 0, false, rfl, by simp [Value.oneCell'], runs_nil _ _ _⟩, Below.setRow HB1.out (by omega) _⟩
  | some i =>
    obtain ⟨_, hi⟩ := hlt i rfl
    have hi : i < l.length := by omega
    obtain ⟨b, off, rfl, hbb, hLA⟩ := HL.out.get hi
    have hla := hLA.below (HB1.out.mono hB) hbb
    have hel := HE.out l[i] (List.getElem_mem hi)
    have HXX := Lib.hid (show X = l[i].ext by rw [HX.out]; simp only; rw [List.getElem?_eq_getElem hi])
    clear hLA hlt HX
    generalize l[i] = x at HXX hla hel
    obtain ⟨ea, ec, h4, hR⟩ := hla.c4
    have dl0 := loadLab_mid hla.c0 hla.c1 hla.c2 hla.c3 h4
    obtain ⟨W3, hW3⟩ : ∃ W3, W3 = (w1.alloc (.cells zeroV 43)).setRow w1.heap.size (labV x ea ec) := ⟨_, rfl⟩
    have st3 := storeLab_at (cs := labV x ea ec) (heap_alloc_new w1 (.cells zeroV 43)) rfl rfl (by simp [Value.oneCell', sv])
    have hg3 : W3.heap[w1.heap.size]? = some (.cells (labV x ea ec) 43 (0, 0)) := by rw [hW3]; exact setRow_heap _ _ _ _ _ _ (heap_alloc_new _ _)
    have hb13 : Below w1.heap.size w1 W3 := by rw [hW3]; exact Below.setRow (box_below _ _ _) (Nat.le_refl _) _
    have HB3 := Lib.hid (HB1.out.trans (hb13.mono HB1.out.size))
    have HZ3 := Lib.hid ((hb13.block _ (lt_of_block HZ1.out)).trans HZ1.out)
    have HG3 := Lib.hid hg3
    have HC := Lib.hid (clone_any W3 B ea ec x.ext (hR.below (hb13.mono (Nat.le_trans hB HB1.out.size))) (by omega))
    have u4 := cell_at (i := 4) (v := .slice ea x.ext.length ec) hg3 rfl
    have HWZ := Lib.hid (lt_of_block HZ1.out)
    have hiI : (i : Int) < (l.length : Int) := by omega
    have hi0 : (0 : Int) ≤ (i : Int) := by omega
    rw [← hW3] at st3
    simp only [labV] at dl0 st3 HG3
    simp only [slotV]
    clear hla h4 hR hW3 hg3 hb13
    generalize x.name = n1 at *
    generalize x.note = n2 at *
    generalize x.id = xi at *
    generalize x.unit = xu at *
    generalize x.ext = ext at *
    generalize hgb : w1.heap.size = gb at *
    go_wp2_with fail
    refine HC.out.mono ?_
    rintro e w5 ⟨ea2, ec2, rfl, hR5, hfr, hb5⟩
    have HB5 := Lib.hid (HB3.out.trans (hb5.mono HB3.out.size))
    have hg5 := (hb5.block gb (lt_of_block HG3.out)).trans HG3.out
    have hz5 := (hb5.block _ (lt_of_block HZ3.out)).trans HZ3.out
    have c4 := cell_at (i := 4) (v := .slice ea ext.length ec) hg5 rfl
    have f4 := free_at hg5 4
    have hgl := lt_of_block HG3.out
    have hg6 : (w5.setCell ⟨gb, 4, none⟩ (.slice ea2 ext.length ec2)).heap[gb]? = some (.cells #[.int .i64 xi, .int .i64 xu, sv n1, sv n2, .slice ea2 ext.length ec2] 43 (0, 0)) := cell_row_any _ _ _ _ _ _ _ hg5
    have on6 : Only [gb] w5 (w5.setCell ⟨gb, 4, none⟩ (.slice ea2 ext.length ec2)) := (Only.refl _ _).setCell (by simp) _
    have hz6 := on6.heap hz5 (by have := HWZ.out; simp; omega)
    have dl6 := loadLab_at hg6 rfl
    have st7 := storeLab_at (cs := #[.int .i64 xi, .int .i64 xu, sv n1, sv n2, .slice ea2 ext.length ec2]) hz6 rfl rfl (by simp [Value.oneCell', sv])
    have HG7 := Lib.hid (setRow_heap _ _ _ #[.int .i64 xi, .int .i64 xu, sv n1, sv n2, .slice ea2 ext.length ec2] _ _ hz6)
    have HB7 := Lib.hid (Below.setRow (Below.setCell HB5.out (p := ⟨gb, 4, none⟩) (by have := HWZ.out; show w.heap.size ≤ gb; omega) (.slice ea2 ext.length ec2)) (show w.heap.size ≤ w.heap.size + 1 + 1 by omega) #[.int .i64 xi, .int .i64 xu, sv n1, sv n2, .slice ea2 ext.length ec2])
    have HR7 := Lib.hid (show Runs ((w5.setCell ⟨gb, 4, none⟩ (.slice ea2 ext.length ec2)).setRow (w.heap.size + 1 + 1) #[.int .i64 xi, .int .i64 xu, sv n1, sv n2, .slice ea2 ext.length ec2]) ((w5.setCell ⟨gb, 4, none⟩ (.slice ea2 ext.length ec2)).setRow (w.heap.size + 1 + 1) #[.int .i64 xi, .int .i64 xu, sv n1, sv n2, .slice ea2 ext.length ec2]).heap.size ea2 ext from
      runs_blk hR5 (by simp) (fun p hp hlt => (setRow_other _ _ _ _ (by have := hfr p hp; have := HWZ.out; omega)).trans (on6.block p.block hlt (by have := hfr p hp; simp; omega))))
    clear hb5 hg5 hz5 hR5 hfr hg6 on6 hz6 dl0 st3 u4
    go_wp2_with fail
    refine ret_lab2 (cs := #[.int .i64 xi, .int .i64 xu, sv n1, sv n2, .slice ea2 ext.length ec2]) rfl rfl rfl rfl rfl HG7.out ?_
    rw [HXX.out]
    exact ⟨⟨_, _, _, _, ea2, ec2, true, rfl, by simp [Value.oneCell', sv], HR7.out⟩, HB7.out⟩
end

end Go.Proofs.YtcidbmldbikknaaGreatDoor

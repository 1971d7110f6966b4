/-
  Walk: the law ForwardLaws. Conditions: the arguments in memory, the laid table.
-/
import Derived.Test.YtckpepfkfjdnhaaGreatDoorNL0
import Derived.Test.YtckpepfkfjdnhaaGreatDoorNZ
import Derived.Test.YtckpepfkfjdnhaaGreatDoorNY
import Derived.Test.YtckpepfkfjdnhaaGreatDoorNL9
namespace Go.Proofs.YtckpepfkfjdnhaaGreatDoor
open Go.RowKit Go.Sort
variable {z : Rest}

theorem num_set {w : World} {g : Nat} {n kind id n' id' : Int} {key rec vol : By} (hg : w.heap[g]? = some (.cells (numC n kind id key rec vol) 30 (0, 0))) :
    ((w.setCell ⟨g, 2, none⟩ (.int .i64 id')).setCell ⟨g, 0, none⟩ (.int .i64 n')).heap[g]? = some (.cells (numC n' kind id' key rec vol) 30 (0, 0)) :=
  heap_setCell_same _ g 0 _ _ _ (heap_setCell_same _ g 2 _ _ _ hg)
theorem num_set' {w : World} {g : Nat} {n kind id n' id' : Int} {key rec vol : By} (hg : w.heap[g]? = some (.cells (numC n kind id key rec vol) 30 (0, 0))) :
    ((w.setCell ⟨g, 0, none⟩ (.int .i64 n')).setCell ⟨g, 2, none⟩ (.int .i64 id')).heap[g]? = some (.cells (numC n' kind id' key rec vol) 30 (0, 0)) :=
  heap_setCell_same _ g 2 _ _ _ (heap_setCell_same _ g 0 _ _ _ hg)

/-- Two maps behind a world, with nothing else old turned. -/
structure MpSt (Wb W : World) (m1 m2 : List Pr) : Prop where
  bel : Below Wb.heap.size Wb W
  one : amap W Wb.heap.size kS kS okS m1
  two : amap W (Wb.heap.size + 1) kS kS okS m2
theorem mp_start (W : World) : MpSt W ((W.alloc (.map #[] 0)).alloc (.map #[] 0)) [] [] := by
  have h1 := amap_new W kS kS okS (ν := By)
  have h2 := amap_new (W.alloc (.map #[] 0)) kS kS okS (ν := By)
  rw [show (W.alloc (.map #[] 0)).heap.size = W.heap.size + 1 by simp] at h2
  have hb : Below W.heap.size W (W.alloc (.map #[] 0)) := (Below.refl _ _).alloc (Nat.le_refl _) _
  exact ⟨hb.alloc hb.size _, amap_keep h1 (halloc _ _ (amap_lt h1)), h2⟩
theorem MpSt.below {Wb W W' : World} {m1 m2 : List Pr} (h : MpSt Wb W m1 m2) (hb : Below W.heap.size W W') : MpSt Wb W' m1 m2 :=
  ⟨h.bel.trans (hb.mono h.bel.size), amap_keep h.one (hb.block _ (amap_lt h.one)), amap_keep h.two (hb.block _ (amap_lt h.two))⟩
theorem MpSt.set1 {Wb W W' : World} {m1 m2 m : List Pr} (h : MpSt Wb W m1 m2) (hm : amap W' Wb.heap.size kS kS okS m) (hg : W.grownBy W' (some Wb.heap.size)) : MpSt Wb W' m m2 :=
  ⟨h.bel.grown hg h.bel.size (fun k hk => by simp at hk; omega), hm, amap_keep h.two (hg.block _ (amap_lt h.two) (by simp))⟩
theorem MpSt.set2 {Wb W W' : World} {m1 m2 m : List Pr} (h : MpSt Wb W m1 m2) (hm : amap W' (Wb.heap.size + 1) kS kS okS m) (hg : W.grownBy W' (some (Wb.heap.size + 1))) : MpSt Wb W' m1 m :=
  ⟨h.bel.grown hg h.bel.size (fun k hk => by simp at hk; omega), amap_keep h.one (hg.block _ (amap_lt h.one) (by simp)), hm⟩
theorem take_aset {l : List Pr} (h : Rise l) {j : Nat} (hj : j < l.length) : aset (l.take j) l[j].1 l[j].2 = l.take (j + 1) := by
  have h1 : Rise ((l.take j ++ [l[j]]) ++ []) := by
    rw [List.append_nil, ← List.take_succ_eq_append_getElem hj]
    exact List.Pairwise.sublist (List.take_sublist _ _) h
  have := (rise_mid h1).1
  unfold aset
  rw [any_no this, List.take_succ_eq_append_getElem hj]
  rfl
/-- A pair in a block of its own. -/
theorem put_pr (w : World) (k r : By) : ∃ W, (storePr ⟨w.heap.size, 0, none⟩ (.agg #[.string ⟨k.toArray⟩, .string ⟨r.toArray⟩])).run Tryz.prog (w.alloc (.cells #[.string ⟨#[]⟩, .string ⟨#[]⟩] 46)) = .ok () W ∧ W.heap[w.heap.size]? = some (.cells #[.string ⟨k.toArray⟩, .string ⟨r.toArray⟩] 46 (0, 0)) ∧ Below w.heap.size w W := by
  have hz := heap_alloc_new w (.cells #[.string ⟨#[]⟩, .string ⟨#[]⟩] 46)
  exact ⟨_, storePr_at (x := (k, r)) hz rfl, setRow_heap _ _ _ _ _ _ hz, below_setRow (box_below0 w _ 46) (Nat.le_refl _) _⟩

section
attribute [local go_sem ↓] loadCo_down storeCo_down loadCh_down loadNum_down storeCh_down loadPr_down storePr_down
set_option maxRecDepth 100000 in
set_option maxHeartbeats 8000000 in
theorem law_laws (w : World) (a : Option Addr) (cap : Nat) (l : List Pr) (org fmt len blk ap n kind id : Int) (key rec vol : By) (hP : Prs w w.heap.size a l) (_hlc : l.length ≤ cap) (_hcm : cap ≤ maxLen) (hvo : z.vol.length ≤ 9223372036854775807) (how : z.own.length ≤ 9223372036854775807) (hc0 : Codes w) (h64 : I64 kind) :
    Calls Tryz.prog 5 #[.agg (conC z org fmt len blk ap a l.length cap), .agg (numC n kind id key rec vol)] w fun e w' => e = .returned (.bool true) ∧ Below w.heap.size w w' := by
  obtain ⟨W0, hW0⟩ : ∃ W0, W0 = (w.alloc (.cells (conC z org fmt len blk ap a l.length cap) 26)).alloc (.cells (numC n kind id key rec vol) 30) := ⟨_, rfl⟩
  have hS : LwSt w W0 z org fmt len blk ap a l.length cap n kind id key rec vol := by rw [hW0]; exact lw_start w org fmt len blk ap a l.length cap n kind id key rec vol
  have HS := Lib.hid hS
  have HW := Lib.hid hW0
  have HP := Lib.hid hP
  have HC := Lib.hid hc0
  have lc := loadCo_at hS.con rfl
  have lh := loadCh_num hS.num
  clear hS hW0 hP hc0
  cases hf : fewC 40 l with
  | false =>
    have H1 := Lib.hid (few49_any (z := z) 40 W0 w.heap.size a cap l org fmt len blk ap (HP.out.below HS.out.bel) HS.out.bel.size (by omega))
    rw [hf] at H1
    go_enter Tryz.func5, Tryz.ntmps5
    go_upto_region 1 with fail
    rw [← HW.out]
    go_wp2_with fail
    refine H1.out.mono ?_
    rintro e w1 ⟨rfl, hb1⟩
    have HB1 := Lib.hid (HS.out.bel.trans (hb1.mono HS.out.bel.size))
    clear hb1 lc lh
    go_wp2_with fail
    refine (awake_any w1 (HC.out.below HB1.out HC.out.pos)).mono ?_
    rintro e w2 ⟨rfl, hb2⟩
    have HB2 := Lib.hid (HB1.out.trans (hb2.mono HB1.out.size))
    clear hb2
    go_wp2_with fail
    go_ret
    exact ⟨rfl, HB2.out⟩
  | true =>
    have HF := Lib.hid (fewC_iff.1 hf)
    have H1 := Lib.hid (few49_any (z := z) 40 W0 w.heap.size a cap l org fmt len blk ap (HP.out.below HS.out.bel) HS.out.bel.size (by omega))
    rw [hf] at H1
    clear hf
    go_enter Tryz.func5, Tryz.ntmps5
    go_upto_region 1 with fail
    rw [← HW.out]
    go_wp2_with fail
    refine H1.out.mono ?_
    rintro e w1 ⟨rfl, hb1⟩
    have HS1 := Lib.hid (HS.out.below hb1)
    have lh1 := loadCh_num HS1.out.num
    clear hb1 lc lh
    go_wp2_with fail
    obtain ⟨w2, hw2⟩ : ∃ w2, w2 = w1.alloc (.cells (Ch.cs ⟨kind, id, key, rec, vol⟩) 28) := ⟨_, rfl⟩
    have hb2 : Below w1.heap.size w1 w2 := by rw [hw2]; exact box_below _ _ _
    have hn2 : w2.heap[w1.heap.size]? = some (.cells (Ch.cs ⟨kind, id, key, rec, vol⟩) 28 (0, 0)) := by rw [hw2]; exact heap_alloc_new _ _
    have HF2 := Lib.hid (few47_any 1 w2 w2.heap.size (some ⟨w1.heap.size, 0, none⟩) 1 [⟨kind, id, key, rec, vol⟩] 0 0 (chs_one hn2) (Nat.le_refl _) (by omega))
    have HS2 := Lib.hid (HS1.out.below hb2)
    have HW2 := Lib.hid hw2
    clear hb2 hn2 hw2 lh1
    cases hr : fewR 1 [(⟨kind, id, key, rec, vol⟩ : Ch)] with
    | false =>
      rw [hr] at HF2
      clear hr
      rw [← HW2.out]
      refine HF2.out.mono ?_
      rintro e w3 ⟨rfl, hb3⟩
      have HB3 := Lib.hid (HS2.out.bel.trans (hb3.mono HS2.out.bel.size))
      clear hb3
      go_wp2_with fail
      refine (awake_any w3 (HC.out.below HB3.out HC.out.pos)).mono ?_
      rintro e w4 ⟨rfl, hb4⟩
      have HB4 := Lib.hid (HB3.out.trans (hb4.mono HB3.out.size))
      clear hb4
      go_wp2_with fail
      go_ret
      exact ⟨rfl, HB4.out⟩
    | true =>
      have HR := Lib.hid ((fewR_iff.1 hr).2 _ (List.mem_singleton.2 rfl))
      rw [hr] at HF2
      clear hr
      obtain ⟨hk, hrl, hv⟩ := HR.out
      simp only at hk hrl hv
      obtain ⟨n1, hn1⟩ : ∃ n1, n1 = wrap64 (ap + 1) := ⟨_, rfl⟩
      have hn2 : n1 = IntKind.i64.wrap (ap + 1) := by rw [hn1, IntKind.wrap_i64]; unfold wrap64; rfl
      have HD1 := Lib.hid (fun (W : World) (hb : Below w.heap.size w W) => fdo_any (z := z) W w.heap.size a cap l org fmt len blk ap n1 kind z.id key rec vol (HP.out.below hb) hb.size (by have := HF.out.1; omega) hvo how (HC.out.below hb HC.out.pos) (by omega) (by omega) (by omega) (fun p hp => by have := HF.out.2 p hp; omega) h64)
      have HOK := Lib.hid (do_ok (z := z) (org := org) (fmt := fmt) (len := len) (blk := blk) (ap := ap) (n := n1) (kind := kind) (l := l) (key := key) (rec := rec) (vol := vol) (by have := HF.out.1; omega) hn2)
      have hdl := doV_len (z := z) (org := org) (fmt := fmt) (len := len) (blk := blk) (ap := ap) (n := n1) (kind := kind) (id := z.id) (l := l) (key := key) (rec := rec) (vol := vol) (by have := HF.out.1; omega)
      rw [← HW2.out]
      refine HF2.out.mono ?_
      rintro e w3 ⟨rfl, hb3⟩
      have HS3 := Lib.hid (HS2.out.below hb3)
      have x0 : w3.cell? ⟨w.heap.size, 0, none⟩ = some (.int .i64 z.id) := cell_at (i := 0) HS3.out.con rfl
      have x21 : w3.cell? ⟨w.heap.size, 21, none⟩ = some (.int .i64 ap) := cell_at (i := 21) HS3.out.con rfl
      have y0 := frozen_of_row _ _ 0 _ _ HS3.out.num
      have y2 := frozen_of_row _ _ 2 _ _ HS3.out.num
      have z0 : w3.cell? ⟨w.heap.size + 1, 0, none⟩ = some (.int .i64 n) := cell_at (i := 0) HS3.out.num rfl
      have z2 : w3.cell? ⟨w.heap.size + 1, 2, none⟩ = some (.int .i64 id) := cell_at (i := 2) HS3.out.num rfl
      have HN1 := Lib.hid hn1
      have HDL := Lib.hid hdl
      clear hb3 hn1 hn2 hdl
      go_wp2_with fail
      go_region
      rw [← HN1.out]
      obtain ⟨W4, hW4⟩ : ∃ W4, W4 = ((w3.setCell ⟨w.heap.size + 1, 2, none⟩ (.int .i64 z.id)).setCell ⟨w.heap.size + 1, 0, none⟩ (.int .i64 n1)).drew := ⟨_, rfl⟩
      rw [← hW4]
      have hS4 : LwSt w W4 z org fmt len blk ap a l.length cap n1 kind z.id key rec vol := by
        rw [hW4]
        refine ⟨?_, num_set HS3.out.num, ((HS3.out.bel.setCell (by simp) _).setCell (by simp) _).drew⟩
        show ((w3.setCell ⟨w.heap.size + 1, 2, none⟩ (.int .i64 z.id)).setCell ⟨w.heap.size + 1, 0, none⟩ (.int .i64 n1)).heap[w.heap.size]? = _
        rw [heap_setCell_other _ _ _ _ (by simp), heap_setCell_other _ _ _ _ (by simp)]
        exact HS3.out.con
      have HS4 := Lib.hid hS4
      have lc4 := loadCo_at hS4.con rfl
      have ln4 := loadNum_at hS4.num rfl
      clear hW4 hS4 x0 x21 y0 y2 z0 z2
      by_cases hr0 : (doV z org fmt len blk ap l n1 kind z.id key rec vol).1 = 0
      · obtain ⟨hv, hc, hr, he, hvn⟩ := HOK.out hr0
        rw [hr] at HD1
        have HBL := Lib.hid (bef_law (val_rise hv) (val_rise hvn) he)
        have HRl := Lib.hid (val_rise hv)
        have HRL := Lib.hid (val_rise hvn)
        have HVN := Lib.hid hvn
        have hkd : 0 ≤ kind ∧ kind ≤ 7 := by
          unfold chgP at hc; simp only [Bool.and_eq_true, decide_eq_true_eq] at hc; exact hc.1.1.1.1
        have HKD := Lib.hid hkd
        have HKL := Lib.hid (show ∀ p ∈ (effR z org fmt len l kind key rec).2, p.1.length ≤ 32 ∧ p.2.length ≤ 1000 from fun p hp => by
          have := (val_pairs hvn).1 p hp
          unfold prOk at this; simpa using this)
        have HLL := Lib.hid (val_iff.1 hvn).2.2.1
        have HNK := Lib.hid (newK_len (z := z) org l rec)
        clear hr0 hv hc hr he hvn hkd HOK HDL
        generalize (effR z org fmt len l kind key rec).2 = L at HD1 HBL HRL HVN HKL HLL
        have HB5L := Lib.hid (fun (W : World) (B : Nat) (a5 : Option Addr) (c5 : Nat) hP hB hC => fvalid_any (z := z) W B a5 c5 L org fmt len blk n1 hP hB (by have := HLL.out; omega) hvo how hC (fun p hp => by have := HKL.out p hp; omega))
        rw [HVN.out] at HB5L
        go_wp2_with fail
        refine (HD1.out W4 HS4.out.bel).mono ?_
        rintro e w5 ⟨⟨cs, rfl, h1, _⟩, hb5⟩
        obtain ⟨a5, c5, rfl, hl5, hm5, hP5, _⟩ := h1 rfl
        obtain ⟨W5, hst5, hW5, hbW5⟩ := put_co w5 z org fmt len blk n1 a5 L.length c5
        have HS5 := Lib.hid (HS4.out.below (hb5.trans (hbW5.mono hb5.size)))
        obtain ⟨W6, hst6, hW6, hb6⟩ := put_ch W5 ⟨kind, z.id, key, rec, vol⟩
        have lh5 := loadCh_num HS5.out.num
        have HS6 := Lib.hid (HS5.out.below hb6)
        have HX6 := Lib.hid (heap_below hb6 (lt_of_block hW5) hW5)
        have HK6 := Lib.hid hW6
        have HP6 := Lib.hid (((hP5.below hbW5).mono hbW5.size).below hb6 |>.mono hb6.size)
        have HM7 := Lib.hid (mp_start W6)
        obtain ⟨W7, hW7⟩ : ∃ W7, W7 = (W6.alloc (.map #[] 0)).alloc (.map #[] 0) := ⟨_, rfl⟩
        have c22 : ((W6.alloc (.map #[] 0)).alloc (.map #[] 0)).cell? ⟨w.heap.size, 22, none⟩ = some (.slice a l.length cap) := cell_at (i := 22) (heap_below HM7.out.bel (lt_of_block HS6.out.con) HS6.out.con) rfl
        have HW7 := Lib.hid hW7
        rw [← hW7] at HM7
        clear h1 hb5 hl5 hm5 hP5 hW5 hbW5 hW6 hb6 hW7 lc4 ln4
        have hmm := @run_makeMap Tryz.prog
        go_wp2_with fail
        clear c22 hst5 hst6 lh5 hmm
        rw [← HW7.out]
        have HBW6 := Lib.hid (HS6.out.bel)
        have hlb := HF.out.1
        have hLb := HLL.out
        go_loopw [51] (fun k wr => ∃ j : Nat, j ≤ l.length ∧ k = .int .i64 j ∧ MpSt W6 wr (l.take j) []) (fun k _ => l.length - (intOf k).toNat)
        case atStart => exact ⟨0, by omega, rfl, HM7.out⟩
        case round =>
          obtain ⟨j, hj, rfl, hM⟩ := hrel
          have HM := Lib.hid hM
          have HBr := Lib.hid (HBW6.out.trans (hM.bel.mono HBW6.out.size))
          clear hM
          by_cases hlt : j < l.length
          · have jI : (j : Int) < (l.length : Int) := by omega
            obtain ⟨b, off, rfl, hbb, g1, g2⟩ := HP.out.get hlt
            have ld1 := loadPr_mid ((HBr.out.cell (p := ⟨b, off + j * 2, none⟩) hbb).trans g1) ((HBr.out.cell (p := ⟨b, off + j * 2 + 1, none⟩) hbb).trans g2)
            have HTA := Lib.hid (take_aset HRl.out hlt)
            have hkj := (HF.out.2 _ (List.getElem_mem hlt)).1
            clear g1 g2
            generalize l[j] = p at ld1 HTA hkj
            obtain ⟨pk, pr⟩ := p
            simp only at ld1 HTA hkj
            obtain ⟨w8, hst8, hW8, hb8⟩ := put_pr wr pk pr
            have HM8 := Lib.hid (HM.out.below hb8)
            have q0 := cell_at (i := 0) (v := .string ⟨pk.toArray⟩) hW8 rfl
            have q1 := cell_at (i := 1) (v := .string ⟨pr.toArray⟩) hW8 rfl
            obtain ⟨w9, hrun9, hm9, hg9, _⟩ := amap_update keyStr Tryz.underlying44 HM8.out.one (show okS pk by unfold okS; omega) pr
            rw [HTA.out] at hm9
            have HM9 := Lib.hid (HM8.out.set1 hm9 hg9)
            clear hkj hW8 hb8 hm9 hg9
            go_wp2_with fail
            go_roundw
            case rel => exact ⟨j + 1, by omega, by go_num, HM9.out⟩
            case measure => simp [intOf]; omega
          · have hjl : j = l.length := by omega
            have jI : ¬ (j : Int) < (l.length : Int) := by omega
            have HM2 := Lib.hid (show MpSt W6 wr l [] by have := HM.out; rwa [hjl, List.take_length] at this)
            have hx := heap_below HM2.out.bel (lt_of_block HX6.out) HX6.out
            have x22 := cell_at (i := 22) (v := .slice a5 L.length c5) hx rfl
            clear hx HM
            go_wp2_with fail
            clear x22
            go_loopw [64] (fun k wr => ∃ j : Nat, j ≤ L.length ∧ k = .int .i64 j ∧ MpSt W6 wr l (L.take j)) (fun k _ => L.length - (intOf k).toNat)
            case atStart => exact ⟨0, by omega, rfl, HM2.out⟩
            case round =>
              obtain ⟨j, hj, rfl, hM⟩ := hrel
              have HM := Lib.hid hM
              have HBr := Lib.hid (HBW6.out.trans (hM.bel.mono HBW6.out.size))
              clear hM
              by_cases hlt : j < L.length
              · have jI : (j : Int) < (L.length : Int) := by omega
                obtain ⟨b, off, rfl, hbb, g1, g2⟩ := HP6.out.get hlt
                have ld1 := loadPr_mid ((HM.out.bel.cell (p := ⟨b, off + j * 2, none⟩) hbb).trans g1) ((HM.out.bel.cell (p := ⟨b, off + j * 2 + 1, none⟩) hbb).trans g2)
                have HTA := Lib.hid (take_aset HRL.out hlt)
                have hkj := (HKL.out _ (List.getElem_mem hlt)).1
                clear g1 g2
                generalize L[j] = p at ld1 HTA hkj
                obtain ⟨pk, pr⟩ := p
                simp only at ld1 HTA hkj
                obtain ⟨w8, hst8, hW8, hb8⟩ := put_pr wr pk pr
                have HM8 := Lib.hid (HM.out.below hb8)
                have q0 := cell_at (i := 0) (v := .string ⟨pk.toArray⟩) hW8 rfl
                have q1 := cell_at (i := 1) (v := .string ⟨pr.toArray⟩) hW8 rfl
                obtain ⟨w9, hrun9, hm9, hg9, _⟩ := amap_update keyStr Tryz.underlying44 HM8.out.two (show okS pk by unfold okS; omega) pr
                rw [HTA.out] at hm9
                have HM9 := Lib.hid (HM8.out.set2 hm9 hg9)
                clear hkj hW8 hb8 hm9 hg9
                go_wp2_with fail
                go_roundw
                case rel => exact ⟨j + 1, by omega, by go_num, HM9.out⟩
                case measure => simp [intOf]; omega
              · have hjl : j = L.length := by omega
                have jI : ¬ (j : Int) < (L.length : Int) := by omega
                have HM2 := Lib.hid (show MpSt W6 wr l L by have := HM.out; rwa [hjl, List.take_length] at this)
                have hk := heap_below HM2.out.bel (lt_of_block HK6.out) HK6.out
                have k0 := cell_at (i := 0) (v := .int .i64 kind) hk rfl
                have k2 := cell_at (i := 2) (v := .string ⟨key.toArray⟩) hk rfl
                have k3 := cell_at (i := 3) (v := .string ⟨rec.toArray⟩) hk rfl
                clear hk HM
                have hkey : okS key := by unfold okS; have : key.length ≤ 50 := HR.out.1; omega
                have hkk : kind = 0 ∨ kind = 1 ∨ kind = 2 ∨ kind = 3 ∨ ((¬ kind = 0 ∧ ¬ kind = 1) ∧ (¬ kind = 2 ∧ ¬ kind = 3)) := by omega
                rcases hkk with rfl | rfl | rfl | rfl | ⟨⟨h0, h1⟩, ⟨h2, h3⟩⟩
                · obtain ⟨w9, hrun9, hm9, hg9, _⟩ := amap_update keyStr Tryz.underlying44 HM2.out.one hkey rec
                  have HMx := Lib.hid (show MpSt W6 w9 (befC z org l 0 key rec) L from HM2.out.set1 hm9 hg9)
                  have HXC := Lib.hid (heap_below HMx.out.bel (lt_of_block HX6.out) HX6.out)
                  have HBx := Lib.hid (HBW6.out.trans (HMx.out.bel.mono HBW6.out.size))
                  have lcx := loadCo_at HXC.out rfl
                  clear hm9 hg9
                  go_wp2_with fail
                  clear hrun9 k0 k2 k3
                  refine (HB5L.out _ W6.heap.size a5 c5 (HP6.out.below HMx.out.bel) HMx.out.bel.size (HC.out.below HBx.out HC.out.pos)).mono ?_
                  rintro e y1 ⟨rfl, hy1⟩
                  have HM1 := Lib.hid (HMx.out.below hy1)
                  have HX1 := Lib.hid (heap_below hy1 (lt_of_block HXC.out) HXC.out)
                  clear hy1 lcx
                  go_wp2_with fail
                  refine (mequal_any y1 W6.heap.size (W6.heap.size + 1) _ L HM1.out.one HM1.out.two HBL.out.1 HBL.out.2.1).mono ?_
                  rintro e y2 ⟨rfl, hy2⟩
                  have HMy := Lib.hid (HM1.out.below hy2)
                  have c22 := cell_at (i := 22) (v := .slice a5 L.length c5) (heap_below hy2 (lt_of_block HX1.out) HX1.out) rfl
                  have ln2 := fun ty => amap_len Tryz.underlying44 HMy.out.two ty
                  have HBy := Lib.hid (HBW6.out.trans (HMy.out.bel.mono HBW6.out.size))
                  clear hy2
                  go_wp2_with fail
                  refine (awake_any y2 (HC.out.below HBy.out HC.out.pos)).mono ?_
                  rintro e y3 ⟨rfl, hy3⟩
                  have HBz := Lib.hid (HBy.out.trans (hy3.mono HBy.out.size))
                  clear hy3 c22 ln2
                  go_wp2_with fail
                  go_ret
                  exact ⟨rfl, HBz.out⟩
                · obtain ⟨w9, hrun9, hm9, hg9, _⟩ := amap_delete keyStr Tryz.underlying44 HM2.out.one hkey 0
                  have HMx := Lib.hid (show MpSt W6 w9 (befC z org l 1 key rec) L from HM2.out.set1 hm9 hg9)
                  have HXC := Lib.hid (heap_below HMx.out.bel (lt_of_block HX6.out) HX6.out)
                  have HBx := Lib.hid (HBW6.out.trans (HMx.out.bel.mono HBW6.out.size))
                  have lcx := loadCo_at HXC.out rfl
                  clear hm9 hg9
                  go_wp2_with fail
                  clear hrun9 k0 k2 k3
                  refine (HB5L.out _ W6.heap.size a5 c5 (HP6.out.below HMx.out.bel) HMx.out.bel.size (HC.out.below HBx.out HC.out.pos)).mono ?_
                  rintro e y1 ⟨rfl, hy1⟩
                  have HM1 := Lib.hid (HMx.out.below hy1)
                  have HX1 := Lib.hid (heap_below hy1 (lt_of_block HXC.out) HXC.out)
                  clear hy1 lcx
                  go_wp2_with fail
                  refine (mequal_any y1 W6.heap.size (W6.heap.size + 1) _ L HM1.out.one HM1.out.two HBL.out.1 HBL.out.2.1).mono ?_
                  rintro e y2 ⟨rfl, hy2⟩
                  have HMy := Lib.hid (HM1.out.below hy2)
                  have c22 := cell_at (i := 22) (v := .slice a5 L.length c5) (heap_below hy2 (lt_of_block HX1.out) HX1.out) rfl
                  have ln2 := fun ty => amap_len Tryz.underlying44 HMy.out.two ty
                  have HBy := Lib.hid (HBW6.out.trans (HMy.out.bel.mono HBW6.out.size))
                  clear hy2
                  go_wp2_with fail
                  refine (awake_any y2 (HC.out.below HBy.out HC.out.pos)).mono ?_
                  rintro e y3 ⟨rfl, hy3⟩
                  have HBz := Lib.hid (HBy.out.trans (hy3.mono HBy.out.size))
                  clear hy3 c22 ln2
                  go_wp2_with fail
                  go_ret
                  exact ⟨rfl, HBz.out⟩
                · have hLn : L.length = l.length + 1 := by rw [HBL.out.2.2 rfl]; simp
                  have hlt : l.length < L.length := by omega
                  obtain ⟨b5, off5, rfl, hbb, g1, g2⟩ := HP6.out.get hlt
                  have hel : L[l.length] = (newK z org l rec, rec) := by
                    have e := HBL.out.2.2 rfl
                    have : L[l.length]? = some (newK z org l rec, rec) := by rw [e]; simp
                    rw [List.getElem?_eq_getElem hlt] at this
                    exact Option.some.inj this
                  rw [hel] at g1 g2
                  have HQ := Lib.hid (show befC z org l 2 key rec = aset l (newK z org l rec) rec from rfl)
                  have hnk : okS (newK z org l rec) := by unfold okS; rw [HNK.out]; decide
                  have q1 := (HM2.out.bel.cell (p := ⟨b5, off5 + l.length * 2, none⟩) hbb).trans g1
                  have q2 := (HM2.out.bel.cell (p := ⟨b5, off5 + l.length * 2 + 1, none⟩) hbb).trans g2
                  have HCN := Lib.hid (heap_below HM2.out.bel (lt_of_block HS6.out.con) HS6.out.con)
                  have HXN := Lib.hid (heap_below HM2.out.bel (lt_of_block HX6.out) HX6.out)
                  have hxn := HXN.out
                  rw [hLn] at hxn
                  have x22 := cell_at (i := 22) (v := .slice (some ⟨b5, off5, none⟩) (l.length + 1) c5) hxn rfl
                  have c22 := cell_at (i := 22) (v := .slice a l.length cap) HCN.out rfl
                  have HLN := Lib.hid hLn
                  obtain ⟨w9, hrun9, hm9, hg9, _⟩ := amap_update (w := wr.drew.drew) keyStr Tryz.underlying44 (amap_keep (w' := wr.drew.drew) HM2.out.one rfl) hnk rec
                  have HM9 := Lib.hid (show MpSt W6 w9 (aset l (newK z org l rec) rec) L from MpSt.set1 (W := wr.drew.drew) ⟨HM2.out.bel.drew.drew, amap_keep (w' := wr.drew.drew) HM2.out.one rfl, amap_keep (w' := wr.drew.drew) HM2.out.two rfl⟩ hm9 hg9)
                  have x22d : wr.drew.cell? ⟨w5.heap.size, 22, none⟩ = some (.slice (some ⟨b5, off5, none⟩) (l.length + 1) c5) := x22
                  have c22d : wr.drew.cell? ⟨w.heap.size, 22, none⟩ = some (.slice a l.length cap) := c22
                  have q2d : wr.drew.cell? ⟨b5, off5 + l.length * 2 + 1, none⟩ = some (.string ⟨rec.toArray⟩) := q2
                  have k3d : wr.drew.cell? ⟨W5.heap.size, 3, none⟩ = some (.string ⟨rec.toArray⟩) := k3
                  have x22e : wr.drew.drew.cell? ⟨w5.heap.size, 22, none⟩ = some (.slice (some ⟨b5, off5, none⟩) (l.length + 1) c5) := x22
                  have c22e : wr.drew.drew.cell? ⟨w.heap.size, 22, none⟩ = some (.slice a l.length cap) := c22
                  have q1e : wr.drew.drew.cell? ⟨b5, off5 + l.length * 2, none⟩ = some (.string ⟨(newK z org l rec).toArray⟩) := q1
                  have k3e : wr.drew.drew.cell? ⟨W5.heap.size, 3, none⟩ = some (.string ⟨rec.toArray⟩) := k3
                  have hw1 : IntKind.i64.wrap ((l.length : Int) + 1) = (l.length : Int) + 1 := by rw [IntKind.wrap_i64]; omega
                  have hll : l.length < l.length + 1 := Nat.lt_succ_self _
                  have hllI : (l.length : Int) < (l.length : Int) + 1 := by omega
                  have HQ2 := Lib.hid (show wr.drew = wr.drew from rfl)
                  clear g1 g2 hel hxn hm9 hg9 hLn
                  generalize newK z org l rec = nk at hrun9 q1 q1e hnk HM9 HQ
                  go_upto_region 25 with fail
                  have HMx := Lib.hid (show MpSt W6 w9 (befC z org l 2 key rec) L by rw [HQ.out]; exact HM9.out)
                  have HXC := Lib.hid (heap_below HMx.out.bel (lt_of_block HX6.out) HX6.out)
                  have HBx := Lib.hid (HBW6.out.trans (HMx.out.bel.mono HBW6.out.size))
                  have lcx := loadCo_at HXC.out rfl
                  go_region
                  go_wp2_with fail
                  obtain ⟨y, hy⟩ : ∃ y, y = wr.drew := ⟨_, rfl⟩
                  rw [← hy] at hrun9 x22e c22e q1e k3e ⊢
                  clear hy x22 c22 x22d c22d q1 q2 q2d k3d k0 k2 k3
                  go_region
                  go_wp2_with fail
                  clear hrun9
                  refine (HB5L.out _ W6.heap.size (some ⟨b5, off5, none⟩) c5 (HP6.out.below HMx.out.bel) HMx.out.bel.size (HC.out.below HBx.out HC.out.pos)).mono ?_
                  rintro e y1 ⟨rfl, hy1⟩
                  have HM1 := Lib.hid (HMx.out.below hy1)
                  have HX1 := Lib.hid (heap_below hy1 (lt_of_block HXC.out) HXC.out)
                  clear hy1 lcx
                  go_wp2_with fail
                  refine (mequal_any y1 W6.heap.size (W6.heap.size + 1) _ L HM1.out.one HM1.out.two HBL.out.1 HBL.out.2.1).mono ?_
                  rintro e y2 ⟨rfl, hy2⟩
                  have HMy := Lib.hid (HM1.out.below hy2)
                  have c22 := cell_at (i := 22) (v := .slice (some ⟨b5, off5, none⟩) L.length c5) (heap_below hy2 (lt_of_block HX1.out) HX1.out) rfl
                  have ln2 := fun ty => amap_len Tryz.underlying44 HMy.out.two ty
                  have HBy := Lib.hid (HBW6.out.trans (HMy.out.bel.mono HBW6.out.size))
                  clear hy2
                  go_wp2_with fail
                  refine (awake_any y2 (HC.out.below HBy.out HC.out.pos)).mono ?_
                  rintro e y3 ⟨rfl, hy3⟩
                  have HBz := Lib.hid (HBy.out.trans (hy3.mono HBy.out.size))
                  clear hy3 c22 ln2
                  go_wp2_with fail
                  go_ret
                  exact ⟨rfl, HBz.out⟩
                · obtain ⟨w9, hrun9, hm9, hg9, _⟩ := amap_clear Tryz.underlying44 HM2.out.one 0
                  have HMx := Lib.hid (show MpSt W6 w9 (befC z org l 3 key rec) L from HM2.out.set1 hm9 hg9)
                  have HXC := Lib.hid (heap_below HMx.out.bel (lt_of_block HX6.out) HX6.out)
                  have HBx := Lib.hid (HBW6.out.trans (HMx.out.bel.mono HBW6.out.size))
                  have lcx := loadCo_at HXC.out rfl
                  clear hm9 hg9
                  go_wp2_with fail
                  clear hrun9 k0 k2 k3
                  refine (HB5L.out _ W6.heap.size a5 c5 (HP6.out.below HMx.out.bel) HMx.out.bel.size (HC.out.below HBx.out HC.out.pos)).mono ?_
                  rintro e y1 ⟨rfl, hy1⟩
                  have HM1 := Lib.hid (HMx.out.below hy1)
                  have HX1 := Lib.hid (heap_below hy1 (lt_of_block HXC.out) HXC.out)
                  clear hy1 lcx
                  go_wp2_with fail
                  refine (mequal_any y1 W6.heap.size (W6.heap.size + 1) _ L HM1.out.one HM1.out.two HBL.out.1 HBL.out.2.1).mono ?_
                  rintro e y2 ⟨rfl, hy2⟩
                  have HMy := Lib.hid (HM1.out.below hy2)
                  have c22 := cell_at (i := 22) (v := .slice a5 L.length c5) (heap_below hy2 (lt_of_block HX1.out) HX1.out) rfl
                  have ln2 := fun ty => amap_len Tryz.underlying44 HMy.out.two ty
                  have HBy := Lib.hid (HBW6.out.trans (HMy.out.bel.mono HBW6.out.size))
                  clear hy2
                  go_wp2_with fail
                  refine (awake_any y2 (HC.out.below HBy.out HC.out.pos)).mono ?_
                  rintro e y3 ⟨rfl, hy3⟩
                  have HBz := Lib.hid (HBy.out.trans (hy3.mono HBy.out.size))
                  clear hy3 c22 ln2
                  go_wp2_with fail
                  go_ret
                  exact ⟨rfl, HBz.out⟩
                · have HQ := Lib.hid (show befC z org l kind key rec = l by unfold befC; rw [if_neg h0, if_neg h1, if_neg h2, if_neg h3])
                  have HMx := Lib.hid (show MpSt W6 wr (befC z org l kind key rec) L from by rw [HQ.out]; exact HM2.out)
                  have HXC := Lib.hid (heap_below HMx.out.bel (lt_of_block HX6.out) HX6.out)
                  have HBx := Lib.hid (HBW6.out.trans (HMx.out.bel.mono HBW6.out.size))
                  have lcx := loadCo_at HXC.out rfl
                  go_wp2_with fail
                  clear k0 k2 k3
                  refine (HB5L.out _ W6.heap.size a5 c5 (HP6.out.below HMx.out.bel) HMx.out.bel.size (HC.out.below HBx.out HC.out.pos)).mono ?_
                  rintro e y1 ⟨rfl, hy1⟩
                  have HM1 := Lib.hid (HMx.out.below hy1)
                  have HX1 := Lib.hid (heap_below hy1 (lt_of_block HXC.out) HXC.out)
                  clear hy1 lcx
                  go_wp2_with fail
                  refine (mequal_any y1 W6.heap.size (W6.heap.size + 1) _ L HM1.out.one HM1.out.two HBL.out.1 HBL.out.2.1).mono ?_
                  rintro e y2 ⟨rfl, hy2⟩
                  have HMy := Lib.hid (HM1.out.below hy2)
                  have c22 := cell_at (i := 22) (v := .slice a5 L.length c5) (heap_below hy2 (lt_of_block HX1.out) HX1.out) rfl
                  have ln2 := fun ty => amap_len Tryz.underlying44 HMy.out.two ty
                  have HBy := Lib.hid (HBW6.out.trans (HMy.out.bel.mono HBW6.out.size))
                  clear hy2
                  go_wp2_with fail
                  refine (awake_any y2 (HC.out.below HBy.out HC.out.pos)).mono ?_
                  rintro e y3 ⟨rfl, hy3⟩
                  have HBz := Lib.hid (HBy.out.trans (hy3.mono HBy.out.size))
                  clear hy3 c22 ln2
                  go_wp2_with fail
                  go_ret
                  exact ⟨rfl, HBz.out⟩
      · obtain ⟨z1, o1, f1, m1, b1, p1, m, hm, _, hout⟩ := do_out z org fmt len blk _ HDL.out
        have HO := Lib.hid hout
        generalize doV z org fmt len blk ap l n1 kind z.id key rec vol = r at HD1 HO hr0
        clear hout hm HOK HDL
        go_wp2_with fail
        refine (HD1.out W4 HS4.out.bel).mono ?_
        rintro e w5 hD
        obtain ⟨a5, c5, rfl, hP5, hl5, hm5, hb5⟩ := HO.out _ _ _ _ hD
        obtain ⟨W5, hst5, hW5, hbW5⟩ := put_co w5 z1 o1 f1 m1 b1 p1 a5 m.length c5
        have HB5 := Lib.hid (HS4.out.bel.trans ((hb5.trans (hbW5.mono hb5.size)).mono HS4.out.bel.size))
        clear hD hP5 hl5 hm5 hb5 hW5 hbW5 lc4 ln4
        go_wp2_with fail
        refine (awake_any W5 (HC.out.below HB5.out HC.out.pos)).mono ?_
        rintro e w6 ⟨rfl, hb6⟩
        have HB6 := Lib.hid (HB5.out.trans (hb6.mono HB5.out.size))
        clear hb6 hst5
        go_wp2_with fail
        go_ret
        exact ⟨rfl, HB6.out⟩
end

end Go.Proofs.YtckpepfkfjdnhaaGreatDoor

/-
  Walk: the law ForwardDoes. Conditions: the arguments in memory, the laid table.
-/
import Derived.Test.YtckpepfkfjdnhaaGreatDoorNL0
import Derived.Test.YtckpepfkfjdnhaaGreatDoorNZ
import Derived.Test.YtckpepfkfjdnhaaGreatDoorNY
import Derived.Test.YtckpepfkfjdnhaaGreatDoorNJ46
namespace Go.Proofs.YtckpepfkfjdnhaaGreatDoor
open Go.RowKit Go.Sort
variable {z : Rest}

section
attribute [local go_sem ↓] loadCo_down storeCo_down loadCh_down loadNum_down
set_option maxRecDepth 100000 in
set_option maxHeartbeats 8000000 in
theorem law_does (w : World) (a : Option Addr) (cap : Nat) (l : List Pr) (org fmt len blk ap n kind id : Int) (key rec vol : By) (hP : Prs w w.heap.size a l) (hlc : l.length ≤ cap) (hcm : cap ≤ maxLen) (hvo : z.vol.length ≤ 9223372036854775807) (how : z.own.length ≤ 9223372036854775807) (hc0 : Codes w) (h64 : I64 kind) :
    Calls Tryz.prog 3 #[.agg (conC z org fmt len blk ap a l.length cap), .agg (numC n kind id key rec vol)] w fun e w' => e = .returned (.bool true) ∧ Below w.heap.size w w' := by
  obtain ⟨W0, hW0⟩ : ∃ W0, W0 = (w.alloc (.cells (conC z org fmt len blk ap a l.length cap) 26)).alloc (.cells (numC n kind id key rec vol) 30) := ⟨_, rfl⟩
  have hS : LwSt w W0 z org fmt len blk ap a l.length cap n kind id key rec vol := by rw [hW0]; exact lw_start w org fmt len blk ap a l.length cap n kind id key rec vol
  have HS := Lib.hid hS
  have HW := Lib.hid hW0
  have HP := Lib.hid hP
  have HC := Lib.hid hc0
  have lc := loadCo_at hS.con rfl
  have lh := loadCh_num hS.num
  clear hS hW0 hP hc0
  cases hf : fewC 40 l with
  | false =>
    have H1 := Lib.hid (few49_any (z := z) 40 W0 w.heap.size a cap l org fmt len blk ap (HP.out.below HS.out.bel) HS.out.bel.size (by omega))
    rw [hf] at H1
    go_enter Tryz.func3, Tryz.ntmps3
    go_upto_region 1 with fail
    rw [← HW.out]
    go_wp2_with fail
    refine H1.out.mono ?_
    rintro e w1 ⟨rfl, hb1⟩
    have HB1 := Lib.hid (HS.out.bel.trans (hb1.mono HS.out.bel.size))
    clear hb1 lc lh
    go_wp2_with fail
    refine (awake_any w1 (HC.out.below HB1.out HC.out.pos)).mono ?_
    rintro e w2 ⟨rfl, hb2⟩
    have HB2 := Lib.hid (HB1.out.trans (hb2.mono HB1.out.size))
    clear hb2
    go_wp2_with fail
    go_ret
    exact ⟨rfl, HB2.out⟩
  | true =>
    have HF := Lib.hid (fewC_iff.1 hf)
    have H1 := Lib.hid (few49_any (z := z) 40 W0 w.heap.size a cap l org fmt len blk ap (HP.out.below HS.out.bel) HS.out.bel.size (by omega))
    rw [hf] at H1
    clear hf
    go_enter Tryz.func3, Tryz.ntmps3
    go_upto_region 1 with fail
    rw [← HW.out]
    go_wp2_with fail
    refine H1.out.mono ?_
    rintro e w1 ⟨rfl, hb1⟩
    have HS1 := Lib.hid (HS.out.below hb1)
    have lh1 := loadCh_num HS1.out.num
    clear hb1 lc lh
    go_wp2_with fail
    obtain ⟨w2, hw2⟩ : ∃ w2, w2 = w1.alloc (.cells (Ch.cs ⟨kind, id, key, rec, vol⟩) 28) := ⟨_, rfl⟩
    have hb2 : Below w1.heap.size w1 w2 := by rw [hw2]; exact box_below _ _ _
    have hn2 : w2.heap[w1.heap.size]? = some (.cells (Ch.cs ⟨kind, id, key, rec, vol⟩) 28 (0, 0)) := by rw [hw2]; exact heap_alloc_new _ _
    have HF2 := Lib.hid (few47_any 1 w2 w2.heap.size (some ⟨w1.heap.size, 0, none⟩) 1 [⟨kind, id, key, rec, vol⟩] 0 0 (chs_one hn2) (Nat.le_refl _) (by omega))
    have HS2 := Lib.hid (HS1.out.below hb2)
    have HW2 := Lib.hid hw2
    clear hb2 hn2 hw2 lh1
    cases hr : fewR 1 [(⟨kind, id, key, rec, vol⟩ : Ch)] with
    | false =>
      rw [hr] at HF2
      clear hr
      rw [← HW2.out]
      refine HF2.out.mono ?_
      rintro e w3 ⟨rfl, hb3⟩
      have HB3 := Lib.hid (HS2.out.bel.trans (hb3.mono HS2.out.bel.size))
      clear hb3
      go_wp2_with fail
      refine (awake_any w3 (HC.out.below HB3.out HC.out.pos)).mono ?_
      rintro e w4 ⟨rfl, hb4⟩
      have HB4 := Lib.hid (HB3.out.trans (hb4.mono HB3.out.size))
      clear hb4
      go_wp2_with fail
      go_ret
      exact ⟨rfl, HB4.out⟩
    | true =>
      have HR := Lib.hid ((fewR_iff.1 hr).2 _ (List.mem_singleton.2 rfl))
      rw [hr] at HF2
      clear hr
      obtain ⟨hk, hrl, hv⟩ := HR.out
      simp only at hk hrl hv
      have HD1 := Lib.hid (fun (W : World) (hb : Below w.heap.size w W) => fdo_any (z := z) W w.heap.size a cap l org fmt len blk ap n kind id key rec vol (HP.out.below hb) hb.size (by have := HF.out.1; omega) hvo how (HC.out.below hb HC.out.pos) (by omega) (by omega) (by omega) (fun p hp => by have := HF.out.2 p hp; omega) h64)
      have HD2 := Lib.hid (fun (W : World) (hb : Below w.heap.size w W) => rdo_any (z := z) W w.heap.size a cap l org fmt len blk ap n kind id key rec vol (HP.out.below hb) hb.size hlc hcm (by have := HF.out.1; omega) hvo how (by omega) (by omega) (by omega) (fun p hp => by have := HF.out.2 p hp; omega))
      rw [← do_law (by have := HF.out.1; omega)] at HD2
      have hdl := doV_len (z := z) (org := org) (fmt := fmt) (len := len) (blk := blk) (ap := ap) (n := n) (kind := kind) (id := id) (l := l) (key := key) (rec := rec) (vol := vol) (by have := HF.out.1; omega)
      clear hk hrl hv
      generalize doV z org fmt len blk ap l n kind id key rec vol = r at HD1 HD2 hdl
      obtain ⟨z1, o1, f1, n1, b1, p1, m, hm, _, hout⟩ := do_out z org fmt len blk r hdl
      have HO := Lib.hid hout
      have HM := Lib.hid hm
      clear hdl hout hm
      rw [← HW2.out]
      refine HF2.out.mono ?_
      rintro e w3 ⟨rfl, hb3⟩
      have HS3 := Lib.hid (HS2.out.below hb3)
      have lc3 := loadCo_at HS3.out.con rfl
      have ln3 := loadNum_at HS3.out.num rfl
      clear hb3
      go_wp2_with fail
      refine (HD1.out w3 HS3.out.bel).mono ?_
      rintro e w4 hD
      obtain ⟨a4, c4, rfl, hP4, hl4, hm4, hb4⟩ := HO.out _ _ _ _ hD
      obtain ⟨W4, hst4, hW4, hbW4⟩ := put_co w4 z1 o1 f1 n1 b1 p1 a4 m.length c4
      have HS4 := Lib.hid (HS3.out.below (hb4.trans (hbW4.mono hb4.size)))
      have HP4 := Lib.hid ((hP4.below hbW4).mono hbW4.size)
      have HX4 := Lib.hid hW4
      have lc4 := loadCo_at HS4.out.con rfl
      have ln4 := loadNum_at HS4.out.num rfl
      clear hD hP4 hl4 hm4 hb4 hW4 hbW4 lc3 ln3
      go_wp2_with fail
      refine (HD2.out W4 HS4.out.bel).mono ?_
      rintro e w5 hD
      obtain ⟨a5, c5, rfl, hP5, hl5, hm5, hb5⟩ := HO.out _ _ _ _ hD
      obtain ⟨W5, hst5, hW5, hbW5⟩ := put_co w5 z1 o1 f1 n1 b1 p1 a5 m.length c5
      have HB5 := Lib.hid (HS4.out.bel.trans ((hb5.trans (hbW5.mono hb5.size)).mono HS4.out.bel.size))
      have HP5 := Lib.hid ((hP5.below hbW5).mono hbW5.size)
      have HP45 := Lib.hid ((HP4.out.below (hb5.trans (hbW5.mono hb5.size))).mono (hb5.trans (hbW5.mono hb5.size)).size)
      have hX4 := heap_below (hb5.trans (hbW5.mono hb5.size)) (lt_of_block HX4.out) HX4.out
      have lx5 := loadCo_at hX4 rfl
      have ly5 := loadCo_at hW5 rfl
      have HXX := Lib.hid hX4
      have HYY := Lib.hid hW5
      clear hD hP5 hl5 hm5 hb5 hbW5 hX4 hW5 lc4 ln4 hst4
      go_wp2_with fail
      refine (r49same_any (z := z1) (z' := z1) W5 W5.heap.size W5.heap.size a4 a5 c4 c5 m m o1 f1 n1 b1 p1 o1 f1 n1 b1 p1 HP45.out HP5.out (Nat.le_refl _) (Nat.le_refl _) (by have := HM.out; omega)).mono ?_
      rw [sameC_refl]
      rintro e w6 ⟨rfl, hb6⟩
      have HB6 := Lib.hid (HB5.out.trans (hb6.mono HB5.out.size))
      have cx := cell_at (i := 21) (v := .int .i64 p1) (heap_below hb6 (lt_of_block HXX.out) HXX.out) rfl
      have cy := cell_at (i := 21) (v := .int .i64 p1) (heap_below hb6 (lt_of_block HYY.out) HYY.out) rfl
      clear hb6 lx5 ly5 hst5
      go_wp2_with fail
      refine (awake_any w6 (HC.out.below HB6.out HC.out.pos)).mono ?_
      rintro e w7 ⟨rfl, hb7⟩
      have HB7 := Lib.hid (HB6.out.trans (hb7.mono HB6.out.size))
      clear hb7
      go_wp2_with fail
      go_ret
      exact ⟨rfl, HB7.out⟩
end

end Go.Proofs.YtckpepfkfjdnhaaGreatDoor

/-
  Walk: the owner of a sector, by the reference. Conditions: a table in memory; numbers of 64 bits.
-/
import Derived.Test.YtcidbmldbikknaaDoorE10
namespace Go.Proofs.YtcidbmldbikknaaDoor
open Go.RowKit Go.Sort
attribute [local go_sem ↓] loadRn_down storeRn_down loadLab_down storeLab_down loadTab_down storeRef_down

set_option maxRecDepth 100000 in
set_option maxHeartbeats 4000000 in
theorem rowner_any (w : World) (B : Nat) (a : Option Addr) (cap : Nat) (nm : By) (tr : Int) (l : List Lab) (s : Int) (h : Labs w B a l) (hB : B ≤ w.heap.size) (hl : l.length ≤ 1000000) (he : ∀ x ∈ l, x.ext.length ≤ 100000) (hs : okI s) :
    Calls Tryd.prog 25 #[.agg (tabC nm tr a l.length cap), .int .i64 s] w fun e w' => e = .returned (ownerR (ownerP l s)) ∧ Below w.heap.size w w' := by
  obtain ⟨s1, s2⟩ := hs
  have hg0 := (halloc _ (.cells #[.int .i64 0, .int .i64 0] 37) (by simp)).trans (heap_alloc_new w (.cells (tabC nm tr a l.length cap) 34))
  have hg1 := two_new w (tabC nm tr a l.length cap) #[.int .i64 0, .int .i64 0] 34 37
  have HB0 := Lib.hid (two_below w (tabC nm tr a l.length cap) #[.int .i64 0, .int .i64 0] 34 37)
  have hO : ownerP l s = if s < 0 then none else match ownP l 0 (s / 8) with
    | none => none
    | some x => match l[x.1]? with
      | none => none
      | some y => some (y.id, y.unit, 8 * (x.2 : Int) + s % 8) := rfl
  generalize ownerP l s = T at hO ⊢
  obtain ⟨W1, hW1⟩ : ∃ W1, W1 = (w.alloc (.cells (tabC nm tr a l.length cap) 34)).alloc (.cells #[.int .i64 0, .int .i64 0] 37) := ⟨_, rfl⟩
  rw [← hW1] at hg0 hg1 HB0
  have HG0 := Lib.hid hg0
  have HG1 := Lib.hid hg1
  have HL := Lib.hid h
  have HW1 := Lib.hid hW1
  have HE := Lib.hid he
  by_cases h0 : s < 0
  · have HT := Lib.hid (show T = none by rw [hO, if_pos h0])
    have t2 := cell_at (i := 2) (v := .slice a l.length cap) hg0 rfl
    have st := storeRef_at (cs := #[.int .i64 0, .int .i64 0]) hg1 rfl rfl (by simp [Value.oneCell'])
    have HG := Lib.hid (setRow_heap _ _ _ #[.int .i64 0, .int .i64 0] _ _ hg1)
    have hs0 : ¬ 0 ≤ s := by omega
    clear hO hg0 hg1 h hW1 he
    go_enter Tryd.func25, Tryd.ntmps25
    go_wp2_with fail
    rw [← HW1.out]
    go_loop [7] (fun k => k = .int .i64 0) (fun k => 0)
    case atStart => rfl
    case round =>
      obtain rfl := hrel
      by_cases hn : 0 < l.length
      · have hn1 : (0 : Int) < (l.length : Int) := by omega
        go_wp2_with fail
        refine ret_own (cs := #[.int .i64 0, .int .i64 0]) rfl rfl rfl rfl rfl rfl HG.out ?_
        rw [HT.out]
        exact ⟨rfl, Below.setRow HB0.out (by omega) _⟩
      · have hn1 : l.length = 0 := by omega
        have hn2 : ¬ (0 : Int) < (l.length : Int) := by omega
        go_wp2_with fail
        refine ret_own (cs := #[.int .i64 0, .int .i64 0]) rfl rfl rfl rfl rfl rfl HG.out ?_
        rw [HT.out]
        exact ⟨rfl, Below.setRow HB0.out (by omega) _⟩
  · rw [if_neg h0] at hO
    have hs0 : 0 ≤ s := by omega
    have m1 : s.tdiv 8 = s / 8 := Int.tdiv_eq_ediv_of_nonneg (by omega)
    have m2 : s.tmod 8 = s % 8 := Int.tmod_eq_emod_of_nonneg (by omega)
    have hd1 : 0 ≤ s / 8 ∧ s / 8 ≤ s := by omega
    have hlt := fun j k hk => ownP_lt (s / 8) 100000 l 0 j k hk he
    obtain ⟨d, hd⟩ : ∃ d, s / 8 = d := ⟨_, rfl⟩
    obtain ⟨r, hr⟩ : ∃ r, s % 8 = r := ⟨_, rfl⟩
    have hr1 : 0 ≤ r ∧ r < 8 := by omega
    rw [hd] at m1 hlt hd1
    rw [hd, hr] at hO
    rw [hr] at m2
    have q1 : s / 8 = d := hd
    have q2 : s % 8 = r := hr
    have m3 : IntKind.i64.wrap d = d := IntWalk.i64_in _ (by omega)
    have m4 : IntKind.i64.wrap r = r := IntWalk.i64_in _ (by omega)
    have hP0 : ownP l 0 d = ownP (l.drop 0) 0 d := rfl
    generalize ownP l 0 d = O at hO hP0 hlt
    have HP0 := Lib.hid hP0
    have HO := Lib.hid hO
    have HLT := Lib.hid hlt
    have t2 := cell_at (i := 2) (v := .slice a l.length cap) hg0 rfl
    clear hg0 hg1 h hd hr hP0 hO hlt hW1 he t2
    go_enter Tryd.func25, Tryd.ntmps25
    go_wp2_with fail
    rw [← HW1.out]
    go_loopw [7] (fun k wr => ∃ j : Nat, j ≤ l.length ∧ k = .int .i64 j ∧ O = ownP (l.drop j) j d ∧ Below W1.heap.size W1 wr) (fun k _ => l.length - (intOf k).toNat)
    case atStart => exact ⟨0, by omega, rfl, HP0.out, Below.refl _ _⟩
    case round =>
      clear HP0
      obtain ⟨j, hj, rfl, hT, hb⟩ := hrel
      have HB := Lib.hid hb
      have HBF := Lib.hid (HB0.out.trans (hb.mono HB0.out.size))
      have hg2 := (hb.block (w.heap.size + 1) (lt_of_block HG1.out)).trans HG1.out
      have hg3 := (hb.block w.heap.size (lt_of_block HG0.out)).trans HG0.out
      have HG2 := Lib.hid hg2
      have HG3 := Lib.hid hg3
      have t2 := cell_at (i := 2) (v := .slice a l.length cap) hg3 rfl
      clear hg2 hg3 hb
      by_cases hlt : j < l.length
      · obtain ⟨b, off, rfl, hbb, hLA⟩ := HL.out.get hlt
        have hel := HE.out l[j] (List.getElem_mem hlt)
        have hla := hLA.below (HBF.out.mono hB) hbb
        have hgj : l[j]? = some l[j] := List.getElem?_eq_getElem hlt
        rw [List.drop_eq_getElem_cons hlt, ownP] at hT
        clear hLA
        generalize l[j] = y at hT hla hel hgj
        obtain ⟨ea, ec, h4, hR⟩ := hla.c4
        have hix := rindex_any wr B ea ec y.ext d hR (Nat.le_trans hB HBF.out.size) hel
        have hxl := fun k hk => idxP_lt d y.ext 0 k hk
        have y0 := hla.c0
        have y1 := hla.c1
        have HGJ := Lib.hid hgj
        clear hla hR hgj
        generalize y.ext = ext at hT h4 hix hel hxl
        generalize hI : idxP ext 0 d = I at hT hix hxl
        have HX := Lib.hid hix
        have jI : (j : Int) < (l.length : Int) := by omega
        have jI0 : (0 : Int) ≤ (j : Int) := by omega
        clear hI hix
        cases I with
        | some k =>
          have hk := hxl k rfl
          have HTT := Lib.hid (show T = some (y.id, y.unit, 8 * (k : Int) + r) by
            rw [HO.out, show O = some (j, k) from hT]; simp only; rw [HGJ.out])
          generalize y.id = yi at y0 HTT
          generalize y.unit = yu at y1 HTT
          have Y0 := Lib.hid y0
          have Y1 := Lib.hid y1
          clear hT hxl y0 y1
          go_wp2_with fail
          refine HX.out.mono ?_
          rintro e w2 ⟨rfl, hb2⟩
          have hg4 := (hb2.block (w.heap.size + 1) (lt_of_block HG2.out)).trans HG2.out
          have hg5 := (hb2.block w.heap.size (lt_of_block HG3.out)).trans HG3.out
          have HB2 := Lib.hid (HBF.out.trans (hb2.mono HBF.out.size))
          have y0 := (hb2.cell (block_lt_of_cell Y0.out)).trans Y0.out
          have y1 := (hb2.cell (block_lt_of_cell Y1.out)).trans Y1.out
          have u2 := cell_at (i := 2) (v := .slice (some ⟨b, off, none⟩) l.length cap) hg5 rfl
          have st : (storeRef ⟨w.heap.size + 1, 0, none⟩ (.agg #[.int .i64 yi, .int .i64 yu])).run Tryd.prog w2.drew = .ok () (w2.drew.setRow (w.heap.size + 1) #[.int .i64 yi, .int .i64 yu]) := storeRef_at (w := w2.drew) (cs := #[.int .i64 yi, .int .i64 yu]) hg4 rfl rfl (by simp [Value.oneCell'])
          have HG := Lib.hid (setRow_heap w2.drew _ _ #[.int .i64 yi, .int .i64 yu] _ _ hg4)
          have HBZ := Lib.hid (Below.setRow (below_drewN HB2.out 1) (show w.heap.size ≤ w.heap.size + 1 by omega) #[.int .i64 yi, .int .i64 yu])
          have m5 : IntKind.i64.wrap (8 * (k : Int)) = 8 * (k : Int) := IntWalk.i64_in _ (by omega)
          have m6 : IntKind.i64.wrap (8 * (k : Int) + r) = 8 * (k : Int) + r := IntWalk.i64_in _ (by omega)
          clear hb2 hg4 hg5 t2 h4
          simp only [idxR]
          go_wp2_with fail
          go_region
          go_wp2_with fail
          refine ret_own (cs := #[.int .i64 yi, .int .i64 yu]) rfl rfl rfl rfl rfl rfl HG.out ?_
          rw [HTT.out]
          exact ⟨rfl, HBZ.out⟩
        | none =>
          have HTT := Lib.hid (show O = ownP (l.drop (j + 1)) (j + 1) d from hT)
          clear hT hxl y0 y1
          go_wp2_with fail
          refine HX.out.mono ?_
          rintro e w2 ⟨rfl, hb2⟩
          have HB2 := Lib.hid (HB.out.trans (hb2.mono HB.out.size))
          clear hb2 t2 h4
          simp only [idxR]
          go_wp2_with fail
          go_roundw
          case rel => exact ⟨j + 1, by omega, by go_num, HTT.out, HB2.out⟩
          case measure => simp [intOf]; omega
      · have HTT := Lib.hid (show T = none by rw [HO.out, hT, List.drop_eq_nil_of_le (by omega)]; rfl)
        have st := storeRef_at (cs := #[.int .i64 0, .int .i64 0]) HG2.out rfl rfl (by simp [Value.oneCell'])
        have HG := Lib.hid (setRow_heap _ _ _ #[.int .i64 0, .int .i64 0] _ _ HG2.out)
        have HBZ := Lib.hid (Below.setRow HBF.out (show w.heap.size ≤ w.heap.size + 1 by omega) #[.int .i64 0, .int .i64 0])
        have jI : ¬ (j : Int) < (l.length : Int) := by omega
        clear hT
        go_wp2_with fail
        refine ret_own (cs := #[.int .i64 0, .int .i64 0]) rfl rfl rfl rfl rfl rfl HG.out ?_
        rw [HTT.out]
        exact ⟨rfl, HBZ.out⟩

end Go.Proofs.YtcidbmldbikknaaDoor

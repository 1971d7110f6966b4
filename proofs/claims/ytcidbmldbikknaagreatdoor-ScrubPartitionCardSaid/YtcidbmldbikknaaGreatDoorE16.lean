/-
  Walk: the owners of all tracks. Conditions: a table in memory; numbers of 64 bits.
-/
import Derived.Test.YtcidbmldbikknaaGreatDoorE15
namespace Go.Proofs.YtcidbmldbikknaaGreatDoor
open Go.RowKit Go.Sort
attribute [local go_sem ↓] loadRn_down storeRn_down loadLab_down storeLab_down loadTab_down storeRef_down

/-- A row of n numbers of which the first i are those of M, the others zero. -/
def fillL (M : List Int) (n i : Nat) : List Value := (M.take i ++ List.replicate (n - i) 0).map (Value.int .i64)
theorem fill_zero (M : List Int) (n : Nat) : (madeCells #[Value.int .i64 0] (n * 1)).toList = fillL M n 0 := by
  rw [toList_madeCells_one]; simp [fillL]
theorem fill_end (M : List Int) (n : Nat) (h : M.length = n) : fillL M n n = M.map (Value.int .i64) := by
  simp [fillL, List.take_of_length_le (Nat.le_of_eq h)]
theorem fill_get (M : List Int) (n i : Nat) (h : M.length = n) (hi : i < n) : (fillL M n i)[i]? = some (.int .i64 0) := by
  have : (M.take i).length = i := by rw [List.length_take]; omega
  simp only [fillL, List.getElem?_map]
  rw [List.getElem?_append_right (by omega), this, List.getElem?_replicate, if_pos (by omega)]; rfl
theorem fill_set (M : List Int) (n i : Nat) (h : M.length = n) (hi : i < n) : (fillL M n i).set i (.int .i64 (M[i]'(by omega))) = fillL M n (i + 1) := by
  have hl : (M.take i).length = i := by rw [List.length_take]; omega
  simp only [fillL]
  rw [← List.map_set, take_snoc' M i (by omega), List.set_append_right _ _ (by omega), hl, Nat.sub_self]
  obtain ⟨k, hk⟩ : ∃ k, n - i = k + 1 := ⟨n - i - 1, by omega⟩
  rw [hk, List.replicate_succ, List.set_cons_zero, show n - (i + 1) = k by omega, List.append_assoc]; rfl
theorem fill_get0 (M : List Int) (n i : Nat) (h : M.length = n) (hi : i < n) (hz : M[i]'(by omega) = 0) : fillL M n i = fillL M n (i + 1) := by
  rw [← fill_set M n i h hi, hz]
  have hg := fill_get M n i h hi
  obtain ⟨h1, h2⟩ := List.getElem?_eq_some_iff.1 hg
  rw [← h2, List.set_getElem_self]

/-- What a track belongs to, by its slot. -/
def mapO (l : List Lab) : Option (Nat × Nat) → Int
  | none => 0
  | some x => match l[x.1]? with
    | none => 0
    | some y => y.id
theorem mapV_eq (tr : Int) (l : List Lab) (i : Nat) : mapV tr l i = if (i : Int) < ttP tr then -1 else mapO l (ownP l 0 (i : Int)) := by
  unfold mapV
  split
  · rfl
  · unfold ownerP
    rw [if_neg (by omega), show 8 * (i : Int) / 8 = i by omega]
    cases ownP l 0 (i : Int) with
    | none => rfl
    | some x => simp only [mapO]; cases l[x.1]? <;> rfl

set_option maxRecDepth 100000 in
set_option maxHeartbeats 4000000 in
theorem smap_any (w : World) (B : Nat) (a : Option Addr) (cap : Nat) (nm : By) (tr : Int) (l : List Lab) (h : Labs w B a l) (hB : B ≤ w.heap.size) (hl : l.length ≤ 1000000) (he : ∀ x ∈ l, x.ext.length ≤ 100000) :
    Calls Tryz.prog 24 #[.agg (tabC nm tr a l.length cap)] w fun e w' => ∃ v, e = .returned v ∧ w'.ownsRow w.heap.size 3 1 v (mapP tr l).length ((mapP tr l).map (Value.int .i64)) ∧ Below w.heap.size w w' := by
  obtain ⟨i0, hi0, hz0, hz1, hz2⟩ := info_parts infoI
  obtain ⟨n, hn⟩ : ∃ n : Nat, trP tr = n := ⟨(trP tr).toNat, by have := trP_le tr; omega⟩
  have hn128 : n ≤ 128 := by have := trP_le tr; omega
  have hml : (mapP tr l).length = n := by rw [mapP_len, hn]; simp
  have HG := Lib.hid (fun i h => mapP_get tr l i h)
  have HLT := Lib.hid (fun (i : Nat) j k hk => ownP_lt (i : Int) 100000 l 0 j k hk he)
  have HO := Lib.hid (fun (i : Nat) (hi : i ≤ 128) W h1 h2 => owner_any W B a cap nm tr l (i : Int) h1 h2 hl (fun x hx => Nat.le_trans (he x hx) (by omega)) ⟨by omega, by omega⟩)
  have HTR := Lib.hid (fun W => tracks_any nm tr a l.length cap W)
  have HTT := Lib.hid (fun W => tabletracks_any tr W)
  have HMV := Lib.hid (mapV_eq tr l)
  rw [hn] at HTR
  obtain ⟨W0, hW0⟩ : ∃ W0, W0 = w.alloc (.cells (tabC nm tr a l.length cap) 24) := ⟨_, rfl⟩
  have HB0 := Lib.hid (show Below w.heap.size w W0 by rw [hW0]; exact box_below w _ _)
  have HD0 := Lib.hid (show W0.heap[w.heap.size]? = some (.cells (tabC nm tr a l.length cap) 24 (0, 0)) by rw [hW0]; exact heap_alloc_new w _)
  have hs0 : W0.heap.size = w.heap.size + 1 := by rw [hW0]; simp
  have HL := Lib.hid (h.below (HB0.out.mono hB))
  have HBW := Lib.hid (Nat.le_trans hB HB0.out.size)
  have HW0 := Lib.hid hW0
  have HSZ := Lib.hid hs0
  have dl := loadTab_at (heap_alloc_new w (.cells (tabC nm tr a l.length cap) 24)) rfl
  generalize mapP tr l = M at hml HG ⊢
  generalize ttP tr = tt at HTT HMV
  have HM := Lib.hid hml
  clear hW0 hs0 h he hn hml
  go_enter Tryz.func24, Tryz.ntmps24
  go_wp2_with fail
  rw [← HW0.out]
  refine (HTR.out _).mono ?_
  rintro e w1 ⟨rfl, hb1⟩
  obtain ⟨w2, hmk, ho2, hg2⟩ := run_make_full (P := Tryz.prog) (w := w1) W0.heap.size 26 3 i0 (.int .i64 0) 1 Tryz.underlying26 hi0 hz0 hz1 .i64 .i64 n (by rw [hz2]; omega) (by unfold maxLen; omega) hb1.size
  have HB2 := Lib.hid (hb1.grown hg2 hb1.size (fun k hk => by cases hk))
  have HO2 := Lib.hid (show w2.ownsRow W0.heap.size 3 1 (.slice (some ⟨w1.heap.size, 0, none⟩) n n) n (fillL M n 0) from fill_zero M n ▸ ho2)
  have HGB := Lib.hid hb1.size
  clear ho2 hg2 hb1 dl
  obtain ⟨g, hg⟩ : ∃ g, g = w1.heap.size := ⟨_, rfl⟩
  rw [← hg] at hmk HO2 HGB
  clear hg
  go_wp2_with fail
  go_loopw [13] (fun k wr => ∃ (i : Nat), i ≤ n ∧ k = .int .i64 i ∧ Below W0.heap.size W0 wr ∧ wr.ownsRow W0.heap.size 3 1 (.slice (some ⟨g, 0, none⟩) n n) n (fillL M n i)) (fun k _ => n - (intOf k).toNat)
  case atStart => exact ⟨0, by omega, rfl, HB2.out, HO2.out⟩
  case round =>
    clear HO2 HB2
    obtain ⟨i, hi, rfl, hb, ho⟩ := hrel
    have HB := Lib.hid hb
    have HOW := Lib.hid ho
    have hwl : w.heap.size < W0.heap.size := by rw [HSZ.out]; omega
    have hd := (hb.block w.heap.size hwl).trans HD0.out
    have t1 := cell_at (i := 1) (v := .int .i64 tr) hd rfl
    have HD := Lib.hid hd
    clear hb ho hd
    by_cases hlt : i < n
    · have hltI : (i : Int) < (n : Int) := by omega
      have hgt := HG.out i (HM.out ▸ hlt)
      rw [HMV.out] at hgt
      have hfz := HOW.out.frozenAt i
      have hcz := (HOW.out.cellAt i (by omega)).trans (fill_get M n i HM.out hlt)
      go_wp2_with fail
      refine (HTT.out _).mono ?_
      rintro e _ ⟨rfl, rfl⟩
      by_cases hc : (i : Int) < tt
      · rw [if_pos hc] at hgt
        have hs := HOW.out.stored i (.int .i64 (-1))
        have hset := fill_set M n i HM.out hlt
        rw [hgt] at hset
        rw [hset] at hs
        have HS := Lib.hid hs
        have HBS := Lib.hid (HB.out.setCell (p := ⟨g, i, none⟩) HGB.out (.int .i64 (-1)))
        clear hset hs hgt
        go_wp2_with fail
        go_roundw
        case rel => exact ⟨i + 1, by omega, by go_num, HBS.out, HS.out.1⟩
        case measure => simp [intOf]; omega
      · rw [if_neg hc] at hgt
        have dl := loadTab_at HD.out rfl
        have hO := fun W h1 h2 => HO.out i (by omega) W h1 h2
        have hlt2 := fun j k hk => HLT.out i j k hk
        generalize ownP l 0 (i : Int) = O at hgt hO hlt2
        have HO' := Lib.hid hO
        clear hO
        cases O with
        | none =>
          have HF := Lib.hid (fill_get0 M n i HM.out hlt (by rw [hgt]; rfl))
          clear hgt hlt2 hfz hcz
          go_wp2_with fail
          refine (HO'.out _ (HL.out.below (HB.out.mono HBW.out)) (Nat.le_trans HBW.out HB.out.size)).mono ?_
          rintro e w1 ⟨rfl, hb1⟩
          have HB1 := Lib.hid (HB.out.trans (hb1.mono HB.out.size))
          have HO1 := Lib.hid (own_below HOW.out hb1)
          clear hb1 dl
          simp only [ownR]
          go_wp2_with fail
          go_roundw
          case rel => exact ⟨i + 1, by omega, by go_num, HB1.out, HF.out ▸ HO1.out⟩
          case measure => simp [intOf]; omega
        | some x =>
          obtain ⟨j, k⟩ := x
          obtain ⟨_, hj, hk⟩ := hlt2 j k rfl
          have hj : j < l.length := by omega
          have hgv : M[i]'(HM.out ▸ hlt) = l[j].id := by rw [hgt]; simp only [mapO]; rw [List.getElem?_eq_getElem hj]
          obtain ⟨b, off, rfl, hbb, hLA⟩ := HL.out.get hj
          have hla0 := hLA.below (HB.out.mono HBW.out) hbb
          have hbw : b < wr.heap.size := block_lt_of_cell hla0.c0
          generalize l[j] = y at hgv hLA hla0
          have HLA := Lib.hid hla0
          have HGV := Lib.hid hgv
          clear hgt hlt2 hfz hcz hgv hLA hla0
          go_wp2_with fail
          refine (HO'.out _ (HL.out.below (HB.out.mono HBW.out)) (Nat.le_trans HBW.out HB.out.size)).mono ?_
          rintro e w1 ⟨rfl, hb1⟩
          have HB1 := Lib.hid (HB.out.trans (hb1.mono HB.out.size))
          have HO1 := Lib.hid (own_below HOW.out hb1)
          have y0 := (hb1.cell (p := ⟨b, off + j * 5, none⟩) hbw).trans HLA.out.c0
          have hd1 := (hb1.block w.heap.size (lt_of_block HD.out)).trans HD.out
          have t2 := cell_at (i := 2) (v := .slice (some ⟨b, off, none⟩) l.length cap) hd1 rfl
          have hfz := HO1.out.frozenAt i
          have hcz := (HO1.out.cellAt i (by omega)).trans (fill_get M n i HM.out hlt)
          have hs := HO1.out.stored i (.int .i64 y.id)
          have hset := fill_set M n i HM.out hlt
          rw [HGV.out] at hset
          rw [hset] at hs
          have HS := Lib.hid hs
          have HBS := Lib.hid (HB1.out.setCell (p := ⟨g, i, none⟩) HGB.out (.int .i64 y.id))
          have jI : (j : Int) < (l.length : Int) := by omega
          have j0 : (0 : Int) ≤ (j : Int) := by omega
          have iI : (i : Int) < (n : Int) := by omega
          have i0' : (0 : Int) ≤ (i : Int) := by omega
          clear hset hs hb1 hd1 dl
          simp only [ownR]
          go_wp2_with fail
          go_roundw
          case rel => exact ⟨i + 1, by omega, by go_num, by first | exact HBS.out | exact below_drewN HBS.out 1, by first | exact HS.out.1 | exact own_drew HS.out.1⟩
          case measure => simp [intOf]; omega
    · obtain rfl : n = i := by omega
      have HFIN := Lib.hid (fill_end M n HM.out ▸ HOW.out)
      have hltI : ¬ (n : Int) < (n : Int) := by omega
      have HB1 := Lib.hid (HB0.out.trans (HB.out.mono HB0.out.size))
      have HO1 := Lib.hid (own_mono HFIN.out HB0.out.size)
      go_wp2_with fail
      go_ret
      exact ⟨_, rfl, HM.out.symm ▸ HO1.out, HB1.out⟩

end Go.Proofs.YtcidbmldbikknaaGreatDoor

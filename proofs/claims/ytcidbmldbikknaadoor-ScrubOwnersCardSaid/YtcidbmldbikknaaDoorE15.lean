/-
  Walk: the owners of all tracks, by the reference. Conditions: a table in memory; numbers of 64 bits.
-/
import Derived.Test.YtcidbmldbikknaaDoorE12
import Derived.Test.YtcidbmldbikknaaDoorE14
namespace Go.Proofs.YtcidbmldbikknaaDoor
open Go.RowKit Go.Sort
attribute [local go_sem ↓] loadRn_down storeRn_down loadLab_down storeLab_down loadTab_down storeRef_down

/-- What a track belongs to. -/
def mapV (tr : Int) (l : List Lab) (i : Nat) : Int := if (i : Int) < ttP tr then -1 else (ownV (ownerP l (8 * (i : Int)))).1
def mapP (tr : Int) (l : List Lab) : List Int := (List.range (trP tr).toNat).map (mapV tr l)
theorem mapP_len (tr : Int) (l : List Lab) : (mapP tr l).length = (trP tr).toNat := by simp [mapP]
theorem mapP_get (tr : Int) (l : List Lab) (i : Nat) (h : i < (mapP tr l).length) : (mapP tr l)[i] = mapV tr l i := by simp [mapP]
theorem trP_le (tr : Int) : 0 ≤ trP tr ∧ trP tr ≤ 128 := by unfold trP; split <;> omega
theorem ints_slice {w : World} {base : Nat} {e : TypeId} {v : Value} {n : Nat} {xs : List Value} (h : w.ownsRow base e 1 v n xs) : ∃ a c, v = .slice a n c := int_slice h

set_option maxRecDepth 100000 in
set_option maxHeartbeats 4000000 in
theorem rmap_any (w : World) (B : Nat) (a : Option Addr) (cap : Nat) (nm : By) (tr : Int) (l : List Lab) (h : Labs w B a l) (hB : B ≤ w.heap.size) (hl : l.length ≤ 1000000) (he : ∀ x ∈ l, x.ext.length ≤ 100000) :
    Calls Tryd.prog 15 #[.agg (tabC nm tr a l.length cap)] w fun e w' => ∃ v, e = .returned v ∧ w'.ownsRow w.heap.size 3 1 v (mapP tr l).length ((mapP tr l).map (Value.int .i64)) ∧ Below w.heap.size w w' := by
  obtain ⟨i0, hi0, hz0, hz1, hz2⟩ := info_parts infoI
  obtain ⟨n, hn⟩ : ∃ n : Nat, trP tr = n := ⟨(trP tr).toNat, by have := trP_le tr; omega⟩
  have hn128 : n ≤ 128 := by have := trP_le tr; omega
  have hml : (mapP tr l).length = n := by rw [mapP_len, hn]; simp
  have HG := Lib.hid (fun i h => mapP_get tr l i h)
  have HO := Lib.hid (fun (i : Nat) (hi : i ≤ 128) W h1 h2 => r15owner_any W B a cap nm tr l (8 * (i : Int)) h1 h2 hl he ⟨by omega, by omega⟩)
  have HTR := Lib.hid (fun W => rtracks_any nm tr a l.length cap W)
  have HTT := Lib.hid (fun W => rtabletracks_any tr W)
  have hmv : ∀ i, mapV tr l i = if (i : Int) < ttP tr then -1 else (ownV (ownerP l (8 * (i : Int)))).1 := fun i => rfl
  have HMV := Lib.hid hmv
  rw [hn] at HTR
  obtain ⟨W0, hW0⟩ : ∃ W0, W0 = w.alloc (.cells (tabC nm tr a l.length cap) 34) := ⟨_, rfl⟩
  have HB0 := Lib.hid (show Below w.heap.size w W0 by rw [hW0]; exact box_below w _ _)
  have HD0 := Lib.hid (show W0.heap[w.heap.size]? = some (.cells (tabC nm tr a l.length cap) 34 (0, 0)) by rw [hW0]; exact heap_alloc_new w _)
  have hs0 : W0.heap.size = w.heap.size + 1 := by rw [hW0]; simp
  have HL := Lib.hid (h.below (HB0.out.mono hB))
  have HBW := Lib.hid (Nat.le_trans hB HB0.out.size)
  have HO0 := Lib.hid (lit0 (W := W0) (base := W0.heap.size) (k := w.heap.size + 1) 3 hs0.symm (Nat.le_refl _))
  have HB1 := Lib.hid ((Below.refl W0.heap.size W0).alloc (Nat.le_refl _) (.cells #[] 3))
  have HW0 := Lib.hid hW0
  have HSZ := Lib.hid hs0
  generalize mapP tr l = M at hml HG ⊢
  generalize ttP tr = tt at HTT HMV
  clear hW0 hs0 h he hn hmv
  go_enter Tryd.func15, Tryd.ntmps15
  go_wp2_with fail
  rw [← HW0.out]
  go_loopw [3, 4] (fun v k wr => ∃ (i : Nat), i ≤ n ∧ k = .int .i64 i ∧ Below W0.heap.size W0 wr ∧ wr.ownsRow W0.heap.size 3 1 v i ((M.take i).map (Value.int .i64))) (fun _ k _ => n - (intOf k).toNat)
  case atStart => exact ⟨0, by omega, rfl, HB1.out, by rw [List.take_zero]; exact HO0.out⟩
  case round =>
    clear HO0 HB1
    obtain ⟨i, hi, rfl, hb, ho⟩ := hrel
    have HB := Lib.hid hb
    have HOW := Lib.hid ho
    obtain ⟨oa, oc, rfl⟩ := int_slice ho
    have hwl : w.heap.size < W0.heap.size := by rw [HSZ.out]; omega
    have hd := (hb.block w.heap.size hwl).trans HD0.out
    have dl := loadTab_at hd rfl
    have HD := Lib.hid hd
    clear hb ho hd
    by_cases hlt : i < n
    · have hltI : (i : Int) < (n : Int) := by omega
      have htk := take_snoc' M i (by omega)
      rw [HG.out i (by omega), HMV.out] at htk
      have hto := HO.out i (by omega)
      have hoR := fun W h1 h2 => (show Calls Tryd.prog 12 #[.agg (tabC nm tr a l.length cap), .int .i64 (8 * (i : Int))] W fun e w' => e = .returned (.tuple #[.agg #[.int .i64 (ownV (ownerP l (8 * (i : Int)))).1, .int .i64 (ownV (ownerP l (8 * (i : Int)))).2.1], .int .i64 (ownV (ownerP l (8 * (i : Int)))).2.2.1, .bool (ownV (ownerP l (8 * (i : Int)))).2.2.2]) ∧ Below W.heap.size W w' from ownerR_V (ownerP l (8 * (i : Int))) ▸ hto W h1 h2)
      generalize ownV (ownerP l (8 * (i : Int))) = o at htk hoR
      obtain ⟨x, y, z, q⟩ := o
      simp only at htk
      have HOR := Lib.hid hoR
      have m8 : IntKind.i64.wrap (8 * (i : Int)) = 8 * (i : Int) := IntWalk.i64_in _ (by omega)
      clear hto hoR
      go_wp2_with fail
      refine (HTR.out _).mono ?_
      rintro e w1 ⟨rfl, hb1⟩
      have HB1 := Lib.hid (HB.out.trans (hb1.mono HB.out.size))
      have HO1 := Lib.hid (own_below HOW.out hb1)
      have hd1 := (hb1.block w.heap.size (lt_of_block HD.out)).trans HD.out
      have HD1 := Lib.hid hd1
      clear dl hb1
      have dl1 := loadTab_at hd1 rfl
      clear hd1
      go_wp2_with fail
      refine (HOR.out _ (HL.out.below (HB1.out.mono HBW.out)) (Nat.le_trans HBW.out HB1.out.size)).mono ?_
      rintro e w2 ⟨rfl, hb2⟩
      obtain ⟨W3, hW3⟩ : ∃ W3, W3 = (w2.alloc (.cells #[.int .i64 0, .int .i64 0] 37)).setRow w2.heap.size #[.int .i64 x, .int .i64 y] := ⟨_, rfl⟩
      have st3 := storeRef_at (cs := #[.int .i64 x, .int .i64 y]) (heap_alloc_new w2 (.cells #[.int .i64 0, .int .i64 0] 37)) rfl rfl (by simp [Value.oneCell'])
      have hg3 : W3.heap[w2.heap.size]? = some (.cells #[.int .i64 x, .int .i64 y] 37 (0, 0)) := by rw [hW3]; exact setRow_heap _ _ _ _ _ _ (heap_alloc_new _ _)
      have hb23 : Below w2.heap.size w2 W3 := by rw [hW3]; exact Below.setRow (box_below _ _ _) (Nat.le_refl _) _
      have hb13 : Below w1.heap.size w1 W3 := hb2.trans (hb23.mono hb2.size)
      have HB3 := Lib.hid (HB1.out.trans (hb13.mono HB1.out.size))
      have hO3 := own_below HO1.out hb13
      have hd3 := (hb13.block w.heap.size (lt_of_block HD1.out)).trans HD1.out
      have t1 := cell_at (i := 1) (v := .int .i64 tr) hd3 rfl
      have r0 := cell_at (i := 0) (v := .int .i64 x) hg3 rfl
      rw [← hW3] at st3
      clear hb2 hW3 hg3 hb23 hb13 hd3 dl1
      go_wp2_with fail
      refine (HTT.out _).mono ?_
      rintro e _ ⟨rfl, rfl⟩
      clear st3
      by_cases hc : (i : Int) < tt
      · have HN := Lib.hid (show M.take (i + 1) = M.take i ++ [-1] by rw [htk, if_pos hc])
        clear htk
        go_wp2_with (refine wpList_append_own _ rfl _ _ 23 rfl W0.heap.size 3 i0 (.int .i64 0) 1 8 Tryd.underlying23 hi0 hz0 hz1 hz2 rfl (by decide) _ _ _ rfl (hO3.alloc _) _ 1 1 [.int .i64 (-1)] rfl rfl ?a1 ?a2 ?a3 ?a4 ?a5 ?_)
        try (case a1 => exact news_at (cs := #[.int .i64 (-1)]) (heap_alloc_new _ _))
        try (case a2 => simp [Value.oneCell'])
        try (case a3 => unfold maxLen; omega)
        try (case a4 => omega)
        try (case a5 => have := HB3.out.size; simp; omega)
        intro v6 w6 ho6 hg6 _
        have HB6 := Lib.hid ((HB3.out.alloc HB3.out.size (.cells #[.int .i64 (-1)] 3)).grown hg6 (HB3.out.alloc HB3.out.size _).size (fun k hk => row_own hO3 hk))
        have HO6 := Lib.hid (show w6.ownsRow W0.heap.size 3 1 v6 (i + 1) ((M.take (i + 1)).map (Value.int .i64)) by rw [HN.out, List.map_append, List.map_take]; exact ho6)
        clear ho6 hg6 hO3 t1 r0
        go_wp2_with fail
        go_roundw
        case rel => exact ⟨i + 1, by omega, by go_num, HB6.out, HO6.out⟩
        case measure => simp [intOf]; omega
      · have HN := Lib.hid (show M.take (i + 1) = M.take i ++ [x] by rw [htk, if_neg hc])
        clear htk
        go_wp2_with (refine wpList_append_own _ rfl _ _ 23 rfl W0.heap.size 3 i0 (.int .i64 0) 1 8 Tryd.underlying23 hi0 hz0 hz1 hz2 rfl (by decide) _ _ _ rfl (hO3.alloc _) _ 1 1 [.int .i64 x] rfl rfl ?b1 ?b2 ?b3 ?b4 ?b5 ?_)
        try (case b1 => exact news_at (cs := #[.int .i64 x]) (heap_alloc_new _ _))
        try (case b2 => simp [Value.oneCell'])
        try (case b3 => unfold maxLen; omega)
        try (case b4 => omega)
        try (case b5 => have := HB3.out.size; simp; omega)
        intro v6 w6 ho6 hg6 _
        have HB6 := Lib.hid ((HB3.out.alloc HB3.out.size (.cells #[.int .i64 x] 3)).grown hg6 (HB3.out.alloc HB3.out.size _).size (fun k hk => row_own hO3 hk))
        have HO6 := Lib.hid (show w6.ownsRow W0.heap.size 3 1 v6 (i + 1) ((M.take (i + 1)).map (Value.int .i64)) by rw [HN.out, List.map_append, List.map_take]; exact ho6)
        clear ho6 hg6 hO3 t1 r0
        go_wp2_with fail
        go_roundw
        case rel => exact ⟨i + 1, by omega, by go_num, HB6.out, HO6.out⟩
        case measure => simp [intOf]; omega
    · obtain rfl : n = i := by omega
      have hfin : wr.ownsRow W0.heap.size 3 1 (.slice oa n oc) M.length (M.map (Value.int .i64)) := by
        have h := HOW.out
        rw [show M.take n = M from List.take_of_length_le (by omega)] at h
        rw [show M.length = n by omega]; exact h
      have HFIN := Lib.hid hfin
      have hltI : ¬ (n : Int) < (n : Int) := by omega
      clear hfin
      go_wp2_with fail
      refine (HTR.out _).mono ?_
      rintro e w1 ⟨rfl, hb1⟩
      have HB1 := Lib.hid (HB0.out.trans ((HB.out.trans (hb1.mono HB.out.size)).mono HB0.out.size))
      have HO1 := Lib.hid (own_mono (own_below HFIN.out hb1) HB0.out.size)
      clear hb1 dl
      go_wp2_with fail
      go_ret
      exact ⟨_, rfl, HO1.out, HB1.out⟩

end Go.Proofs.YtcidbmldbikknaaDoor

/-
  Walks: the numbers of bytes of all labels, by the program and the reference. Conditions: a table in memory; numbers of 64 bits.
-/
import Derived.Test.YtcidbmldbikknaaGreatDoorGC
namespace Go.Proofs.YtcidbmldbikknaaGreatDoor
open Go.RowKit Go.Sort
attribute [local go_sem ↓] loadTab_down loadLab_down storeLab_down loadRef_down storeRef_down

def bytesV (l : List Lab) (r : Rn) : Int := ((seqP (extP l r)).length : Int) * 1024
def bytesP (l : List Lab) : List Int := (refsP l).map (bytesV l)
theorem extP_len (l : List Lab) (r : Rn) (he : ∀ x ∈ l, x.ext.length ≤ 1000) : (extP l r).length ≤ 1000 := by
  unfold extP
  split
  · split
    · rename_i x hx
      exact he x (List.mem_of_getElem? hx)
    · simp
  · simp

set_option maxRecDepth 100000 in
set_option maxHeartbeats 4000000 in
theorem bytes_any (w : World) (B : Nat) (a : Option Addr) (cap : Nat) (nm : By) (tr : Int) (l : List Lab) (h : Labs w B a l) (hB : B ≤ w.heap.size) (hl : l.length ≤ 1000) (he : ∀ x ∈ l, x.ext.length ≤ 1000) :
    Calls Tryz.prog 13 #[.agg (tabC nm tr a l.length cap)] w fun e w' => ∃ v, e = .returned v ∧ w'.ownsRow w.heap.size 3 1 v (bytesP l).length ((bytesP l).map (Value.int .i64)) ∧ Below w.heap.size w w' := by
  obtain ⟨i0, hi0, hz0, hz1, hz2⟩ := info_parts infoI
  obtain ⟨W0, hW0⟩ : ∃ W0, W0 = w.alloc (.cells (tabC nm tr a l.length cap) 24) := ⟨_, rfl⟩
  have hb0 : Below w.heap.size w W0 := by rw [hW0]; exact box_below w _ _
  have hd0 : W0.heap[w.heap.size]? = some (.cells (tabC nm tr a l.length cap) 24 (0, 0)) := by rw [hW0]; exact heap_alloc_new w _
  have HB0 := Lib.hid hb0
  have HD0 := Lib.hid hd0
  have HL := Lib.hid h
  have HRF := Lib.hid (fun W (hb : Below w.heap.size w W) => refs_any W B a cap nm tr l (h.below (hb.mono hB)) (Nat.le_trans hB hb.size) (by omega))
  have HFI := Lib.hid (fun W r1 r2 (hb : Below w.heap.size w W) => find_any W B a cap nm tr l r1 r2 (h.below (hb.mono hB)) (Nat.le_trans hB hb.size) hl he)
  have HXL := Lib.hid (fun r => extP_len l r he)
  have HBP := Lib.hid (show bytesP l = (refsP l).map (bytesV l) from rfl)
  have HBV := Lib.hid (fun r => show bytesV l r = ((seqP (extP l r)).length : Int) * 1024 from rfl)
  have hrl : (refsP l).length ≤ 1000 := by unfold refsP; rw [sortR_len]; exact Nat.le_trans (refsU_len l) hl
  generalize bytesP l = BP at HBP ⊢
  generalize refsP l = RP at HRF HBP hrl
  generalize bytesV l = bv at HBP HBV
  have dl := loadTab_at hd0 rfl
  have HW0 := Lib.hid hW0
  rw [hW0] at dl
  clear h hb0 hd0 hW0 he
  go_enter Tryz.func13, Tryz.ntmps13
  go_wp2_with fail
  rw [← HW0.out]
  refine (HRF.out W0 HB0.out).mono ?_
  rintro e w1 ⟨ra, rc, rfl, hR, hb1, _⟩
  have HR := Lib.hid hR
  have HB1 := Lib.hid (HB0.out.trans (hb1.mono HB0.out.size))
  have HD1 := Lib.hid ((hb1.block _ (lt_of_block HD0.out)).trans HD0.out)
  have HN0 := Lib.hid (own_nil w1 w1.heap.size 3 1)
  clear hR hb1 dl
  go_wp2_with fail
  go_loopw [3, 11] (fun v k wr => ∃ j : Nat, j ≤ RP.length ∧ k = .int .i64 j ∧ wr.ownsRow w1.heap.size 3 1 v j (((RP.take j).map bv).map (Value.int .i64)) ∧ Below w1.heap.size w1 wr) (fun _ k _ => RP.length - (intOf k).toNat)
  case atStart => exact ⟨0, by omega, rfl, HN0.out, Below.refl _ _⟩
  case round =>
    clear HN0
    obtain ⟨j, hj, rfl, ho, hb⟩ := hrel
    have HO := Lib.hid ho
    have HB := Lib.hid hb
    have HBF := Lib.hid (HB1.out.trans (hb.mono HB1.out.size))
    have hd := (hb.block _ (lt_of_block HD1.out)).trans HD1.out
    obtain ⟨oa, oc, rfl⟩ := int_slice ho
    by_cases hlt : j < RP.length
    · have hltI : (j : Int) < (RP.length : Int) := by omega
      obtain ⟨b, off, rfl, hbb, hx, hy⟩ := HR.out.get hlt
      have y0 := (hb.cell (p := ⟨b, off + j * 2, none⟩) hbb).trans hx
      have y1 := (hb.cell (p := ⟨b, off + j * 2 + 1, none⟩) hbb).trans hy
      have HTK := Lib.hid (show RP.take (j + 1) = RP.take j ++ [RP[j]] from take_snoc' RP j hlt)
      have hbvr := HBV.out RP[j]
      clear hx hy ho
      generalize RP[j] = r at y0 y1 HTK hbvr
      obtain ⟨r1, r2⟩ := r
      simp only at y0 y1
      have dl0 := loadRef_mid y0 y1
      obtain ⟨W3, hW3⟩ : ∃ W3, W3 = (wr.alloc (.cells #[.int .i64 0, .int .i64 0] 40)).setRow wr.heap.size #[.int .i64 r1, .int .i64 r2] := ⟨_, rfl⟩
      have st3 := storeRef_at (cs := #[.int .i64 r1, .int .i64 r2]) (heap_alloc_new wr (.cells #[.int .i64 0, .int .i64 0] 40)) rfl rfl (by simp [Value.oneCell'])
      have hg3 : W3.heap[wr.heap.size]? = some (.cells #[.int .i64 r1, .int .i64 r2] 40 (0, 0)) := by rw [hW3]; exact setRow_heap _ _ _ _ _ _ (heap_alloc_new _ _)
      have hb23 : Below wr.heap.size wr W3 := by rw [hW3]; exact Below.setRow (box_below _ _ _) (Nat.le_refl _) _
      have dr3 := loadRef_at hg3 rfl
      have dt3 := loadTab_at ((hb23.block _ (lt_of_block hd)).trans hd) rfl
      have HB3 := Lib.hid (HB.out.trans (hb23.mono HB.out.size))
      have HB3F := Lib.hid (HBF.out.trans (hb23.mono HBF.out.size))
      have HO3 := Lib.hid (own_below HO.out hb23)
      have hxl := HXL.out (r1, r2)
      rw [← hW3] at st3
      clear hW3 hg3 hb23 y0 y1 hb hd
      go_wp2_with fail
      refine (HFI.out W3 r1 r2 HB3F.out).mono ?_
      rintro e w4 ⟨⟨v0, v1, v2, v3, ea, ec, q, rfl, hone, hRX⟩, hb4⟩
      have HO4 := Lib.hid (own_below HO3.out hb4)
      have HB4 := Lib.hid (HB3.out.trans (hb4.mono HB3.out.size))
      have HB4F := Lib.hid (HB3F.out.trans (hb4.mono HB3F.out.size))
      have hsl := seqP_len (extP l (r1, r2))
      have hsz := fun W (hb : Below w4.heap.size w4 W) => size_any W w4.heap.size ea ec (extP l (r1, r2)) (hRX.below hb) hb.size (by omega)
      clear hRX hb4
      generalize extP l (r1, r2) = X at hsz hsl hbvr hxl
      generalize hsq : (seqP X).length = q2 at hsz hsl hbvr
      have HSZ := Lib.hid hsz
      have HBVR := Lib.hid hbvr
      obtain ⟨W5, hW5⟩ : ∃ W5, W5 = (w4.alloc (.cells zeroV 43)).setRow w4.heap.size #[v0, v1, v2, v3, .slice ea X.length ec] := ⟨_, rfl⟩
      have hone5 : (#[v0, v1, v2, v3, .slice ea X.length ec] : Array Value).all (·.oneCell') = true := by
        simp only [Array.all_eq_true_iff_forall_mem] at hone ⊢
        intro v hv
        simp only [List.mem_toArray, List.mem_cons, List.not_mem_nil, or_false] at hv
        rcases hv with rfl | rfl | rfl | rfl | rfl
        · exact hone _ (by simp)
        · exact hone _ (by simp)
        · exact hone _ (by simp)
        · exact hone _ (by simp)
        · rfl
      have st5 := storeLab_at (cs := #[v0, v1, v2, v3, .slice ea X.length ec]) (heap_alloc_new w4 (.cells zeroV 43)) rfl rfl hone5
      have hg5 : W5.heap[w4.heap.size]? = some (.cells #[v0, v1, v2, v3, .slice ea X.length ec] 43 (0, 0)) := by rw [hW5]; exact setRow_heap _ _ _ _ _ _ (heap_alloc_new _ _)
      have hb45 : Below w4.heap.size w4 W5 := by rw [hW5]; exact Below.setRow (box_below _ _ _) (Nat.le_refl _) _
      have u4 := cell_at (i := 4) (v := .slice ea X.length ec) hg5 rfl
      have HB5 := Lib.hid (HB4.out.trans (hb45.mono HB4.out.size))
      have HB5F := Lib.hid (HB4F.out.trans (hb45.mono HB4F.out.size))
      have HO5 := Lib.hid (own_below HO4.out hb45)
      have HSZ5 := Lib.hid (HSZ.out W5 hb45)
      have m1 : IntKind.i64.wrap ((q2 : Int) * 8) = (q2 : Int) * 8 := IntWalk.i64_in _ (by omega)
      have m2 : IntKind.i64.wrap ((q2 : Int) * 8 * 128) = (q2 : Int) * 8 * 128 := IntWalk.i64_in _ (by omega)
      rw [← hW5] at st5
      simp only [zeroV] at st5
      clear hW5 hg5 hb45 hone hone5 dl0 st3 dr3 dt3 hsz hsq hbvr
      go_wp2_with fail
      refine HSZ5.out.mono ?_
      rintro e w6 ⟨rfl, hb6⟩
      have HB6 := Lib.hid (HB5.out.trans (hb6.mono HB5.out.size))
      have HB6F := Lib.hid (HB5F.out.trans (hb6.mono HB5F.out.size))
      have hlow := own_below HO5.out hb6
      clear hb6 u4 st5
      go_wp2_with (refine wpList_append_own _ rfl _ _ 26 rfl w1.heap.size 3 i0 (.int .i64 0) 1 8 Tryz.underlying26 hi0 hz0 hz1 hz2 rfl (by decide) _ _ _ rfl (hlow.alloc _) _ 1 1 [.int .i64 ((q2 : Int) * 8 * 128)] rfl rfl ?b1 ?b2 ?b3 ?b4 ?b5 ?_)
      try (case b1 => exact news_at (cs := #[.int .i64 ((q2 : Int) * 8 * 128)]) (heap_alloc_new _ _))
      try (case b2 => simp [Value.oneCell'])
      try (case b3 => unfold maxLen; omega)
      try (case b4 => omega)
      try (case b5 => have := HB6.out.size; simp; omega)
      intro v7 w7 ho7 hg7 _
      have HB7 := Lib.hid ((HB6.out.alloc HB6.out.size (.cells #[.int .i64 ((q2 : Int) * 8 * 128)] 3)).grown hg7 (HB6.out.alloc HB6.out.size _).size (fun k hk => row_own hlow hk))
      have he7 : ((RP.take (j + 1)).map bv).map (Value.int .i64) = List.take j (List.map (Value.int .i64 ∘ bv) RP) ++ [.int .i64 ((q2 : Int) * 8 * 128)] := by
        have hv : bv (r1, r2) = (q2 : Int) * 8 * 128 := by rw [HBVR.out]; omega
        rw [HTK.out, List.map_append, List.map_append]
        simp only [List.map_cons, List.map_nil, hv, List.map_take, List.map_map]
      have HO7 := Lib.hid (show w7.ownsRow w1.heap.size 3 1 v7 (j + 1) (((RP.take (j + 1)).map bv).map (Value.int .i64)) by
        rw [he7]
        first
        | exact ho7
        | (simp only [List.map_take, List.map_map] at ho7; exact ho7))
      clear ho7 hg7 hlow
      go_wp2_with fail
      go_roundw
      case rel => exact ⟨j + 1, by omega, by go_num, HO7.out, HB7.out⟩
      case measure => simp [intOf]; omega
    · obtain rfl : j = RP.length := by omega
      have hltI : ¬ (RP.length : Int) < (RP.length : Int) := by omega
      have HQ := Lib.hid (show wr.ownsRow w1.heap.size 3 1 (.slice oa RP.length oc) BP.length (BP.map (Value.int .i64)) by rw [HBP.out, List.length_map]; have := HO.out; rwa [List.take_length] at this)
      clear ho hb hd
      go_wp2_with fail
      go_ret
      exact ⟨_, rfl, own_mono HQ.out HB1.out.size, HBF.out⟩

end Go.Proofs.YtcidbmldbikknaaGreatDoor

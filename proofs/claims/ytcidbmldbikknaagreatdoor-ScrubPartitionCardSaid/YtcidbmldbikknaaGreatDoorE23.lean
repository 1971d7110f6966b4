/-
  Walk: the check of a table, by the program. Conditions: a table in memory; numbers of 64 bits; at most 1000 labels of at most 1000 extents.
-/
import Derived.Test.YtcidbmldbikknaaGreatDoorE22
import Derived.Carry
namespace Go.Proofs.YtcidbmldbikknaaGreatDoor
open Go.RowKit Go.Sort
attribute [local go_sem ↓] loadRn_down storeRn_down loadLab_down storeLab_down loadTab_down storeRef_down loadRef_down loadSc_down storeSc_down

abbrev scV (f u : Nat) (V2 V3 : Value) : Array Value := #[.int .i64 f, .int .i64 u, V2, V3, .slice none 0 0]
/-- What the check's record holds. -/
structure RecSt (w0 : World) (gx : Nat) (f u : Nat) (V2 V3 : Value) (W : World) : Prop where
  only : Only [gx] w0 W
  row : W.heap[gx]? = some (.cells (scV f u V2 V3) 29 (0, 0))
theorem RecSt.below {w0 W W' : World} {gx f u : Nat} {V2 V3 : Value} (h : RecSt w0 gx f u V2 V3 W) (hb : Below W.heap.size W W') : RecSt w0 gx f u V2 V3 W' :=
  ⟨h.only.step_below hb, (hb.block gx (lt_of_block h.row)).trans h.row⟩
theorem RecSt.set0 {w0 W : World} {gx f u : Nat} {V2 V3 : Value} (h : RecSt w0 gx f u V2 V3 W) (f' : Nat) : RecSt w0 gx f' u V2 V3 (W.setCell ⟨gx, 0, none⟩ (.int .i64 f')) :=
  ⟨h.only.setCell (by simp) _, cell_row_any _ _ _ _ _ _ _ h.row⟩
theorem RecSt.set1 {w0 W : World} {gx f u : Nat} {V2 V3 : Value} (h : RecSt w0 gx f u V2 V3 W) (u' : Nat) : RecSt w0 gx f u' V2 V3 (W.setCell ⟨gx, 1, none⟩ (.int .i64 u')) :=
  ⟨h.only.setCell (by simp) _, cell_row_any _ _ _ _ _ _ _ h.row⟩
theorem RecSt.set2 {w0 W : World} {gx f u : Nat} {V2 V3 : Value} (h : RecSt w0 gx f u V2 V3 W) (V : Value) : RecSt w0 gx f u V V3 (W.setCell ⟨gx, 2, none⟩ V) :=
  ⟨h.only.setCell (by simp) _, cell_row_any _ _ _ _ _ _ _ h.row⟩
theorem RecSt.set3 {w0 W : World} {gx f u : Nat} {V2 V3 : Value} (h : RecSt w0 gx f u V2 V3 W) (V : Value) : RecSt w0 gx f u V2 V (W.setCell ⟨gx, 3, none⟩ V) :=
  ⟨h.only.setCell (by simp) _, cell_row_any _ _ _ _ _ _ _ h.row⟩
theorem RecSt.grown {w0 W W' : World} {gx f u : Nat} {V2 V3 : Value} (h : RecSt w0 gx f u V2 V3 W) {v : Option Nat} (hg : W.grownBy W' v) (hv : ∀ k, v = some k → w0.heap.size ≤ k) (hgx : gx < w0.heap.size) : RecSt w0 gx f u V2 V3 W' :=
  ⟨h.only.grown hg (fun k hk => Or.inr (hv k hk)), (hg.block gx (lt_of_block h.row) (fun e => by have := hv gx e.symm; omega)).trans h.row⟩
theorem own_setCell {w : World} {base : Nat} {e : TypeId} {size : Nat} {v : Value} {n : Nat} {xs : List Value} (h : w.ownsRow base e size v n xs) {g i : Nat} (hg : g < base) (x : Value) : (w.setCell ⟨g, i, none⟩ x).ownsRow base e size v n xs :=
  own_only h ((Only.refl [g] w).setCell (by simp) x) (fun k hk => by have := row_own h hk; simp; omega)

theorem box_map (w : World) : Below w.heap.size w (w.alloc (.map #[] 0)) := (Below.refl _ _).alloc (Nat.le_refl _) _

set_option maxRecDepth 100000 in
set_option maxHeartbeats 8000000 in
theorem table_any (w : World) (B : Nat) (a : Option Addr) (cap : Nat) (nm : By) (tr : Int) (l : List Lab) (h : Labs w B a l) (hB : B ≤ w.heap.size) (hl : l.length ≤ 1000) (he : ∀ x ∈ l, x.ext.length ≤ 1000) :
    Calls Tryz.prog 10 #[.agg (tabC nm tr a l.length cap)] w fun e w' => ∃ V2 V3, e = .returned (.agg (scV (freeN tr l) (usedN tr l) V2 V3)) ∧
      w'.ownsRow w.heap.size 40 2 V2 (tentP l).length (refsF (tentP l)) ∧ w'.ownsRow w.heap.size 3 1 V3 (sharedP l).length ((sharedP l).map iv) ∧ Below w.heap.size w w' := by
  obtain ⟨j0, kj0, kz0, kz1, kz2⟩ := info_parts infoI
  obtain ⟨i0, hi0, hz0, hz1, hz2⟩ := info_parts infoR
  obtain ⟨tt, htt⟩ : ∃ tt : Nat, ttP tr = tt := ⟨(ttP tr).toNat, by unfold ttP; split <;> omega⟩
  obtain ⟨n, hn⟩ : ∃ n : Nat, trP tr = n := ⟨(trP tr).toNat, by unfold trP; split <;> omega⟩
  have htn : tt ≤ n ∧ n ≤ 128 := by
    unfold ttP at htt; unfold trP at hn
    split at hn <;> rename_i h0
    · rw [if_pos h0] at htt; omega
    · rw [if_neg h0] at htt; omega
  obtain ⟨htn1, htn2⟩ := htn
  have HU := Lib.hid (show usedN tr l = cntB (isOwn l) tt (n - tt) by unfold usedN; rw [htt, hn]; simp)
  have HF := Lib.hid (show freeN tr l = cntB (fun i => !isOwn l i) tt (n - tt) by unfold freeN; rw [htt, hn]; simp)
  generalize usedN tr l = UN at HU ⊢
  generalize freeN tr l = FN at HF ⊢
  have HO := Lib.hid (fun (i : Nat) (hi : i ≤ 128) W h1 h2 => owner_any W B a cap nm tr l (i : Int) h1 h2 (by omega) (fun x hx => Nat.le_trans (he x hx) (by omega)) ⟨by omega, by omega⟩)
  have HIS := Lib.hid (fun i : Nat => show isOwn l i = (ownP l 0 (i : Int)).isSome from rfl)
  have HTR := Lib.hid (fun W => tracks_any nm tr a l.length cap W)
  have HTT := Lib.hid (fun W => tabletracks_any tr W)
  have HRF := Lib.hid (fun W h1 h2 => refs_any W B a cap nm tr l h1 h2 (by omega))
  have HTP := Lib.hid (show tentP l = tentR (refsP l) from rfl)
  have HSP := Lib.hid (show sharedP l = sharedS (allT l) 128 from rfl)
  have hrl : (refsP l).length ≤ 1000 := by unfold refsP; rw [sortR_len]; exact Nat.le_trans (refsU_len l) hl
  rw [hn] at HTR
  rw [htt] at HTT
  generalize tentP l = TP at HTP ⊢
  generalize sharedP l = SP at HSP ⊢
  generalize refsP l = RP at HTP HRF hrl
  have HE := Lib.hid he
  obtain ⟨W0, hW0⟩ : ∃ W0, W0 = ((w.alloc (.cells (tabC nm tr a l.length cap) 24)).alloc (.cells #[.int .i64 0, .int .i64 0, .slice none 0 0, .slice none 0 0, .slice none 0 0] 29)).alloc (.cells #[.int .i64 0, .int .i64 0, .slice none 0 0, .slice none 0 0, .slice none 0 0] 29) := ⟨_, rfl⟩
  have hb0 : Below w.heap.size w W0 := by rw [hW0]; exact (((Below.refl _ _).alloc (by simp) _).alloc (by simp) _).alloc (by simp; omega) _
  have hs0 : W0.heap.size = w.heap.size + 3 := by rw [hW0]; simp
  have hd0 : W0.heap[w.heap.size]? = some (.cells (tabC nm tr a l.length cap) 24 (0, 0)) := by
    rw [hW0]
    exact (halloc _ _ (by simp; omega)).trans ((halloc _ _ (by simp)).trans (heap_alloc_new _ _))
  have hr0 : W0.heap[w.heap.size + 1]? = some (.cells (scV 0 0 (.slice none 0 0) (.slice none 0 0)) 29 (0, 0)) := by
    rw [hW0]
    exact (halloc _ _ (by simp)).trans (two_new _ _ _ _ _)
  obtain ⟨gx, hgx⟩ : ∃ gx, gx = w.heap.size + 1 + 1 := ⟨_, rfl⟩
  have hx0 : W0.heap[gx]? = some (.cells (scV 0 0 (.slice none 0 0) (.slice none 0 0)) 29 (0, 0)) := by
    rw [hW0, hgx]
    have := heap_alloc_new ((w.alloc (.cells (tabC nm tr a l.length cap) 24)).alloc (.cells #[.int .i64 0, .int .i64 0, .slice none 0 0, .slice none 0 0, .slice none 0 0] 29)) (.cells #[.int .i64 0, .int .i64 0, .slice none 0 0, .slice none 0 0, .slice none 0 0] 29)
    have e : ((w.alloc (.cells (tabC nm tr a l.length cap) 24)).alloc (.cells #[.int .i64 0, .int .i64 0, .slice none 0 0, .slice none 0 0, .slice none 0 0] 29)).heap.size = w.heap.size + 1 + 1 := by simp
    rw [e] at this; exact this
  have HB0 := Lib.hid hb0
  have HD0 := Lib.hid hd0
  have HRES := Lib.hid hr0
  have HGX := Lib.hid hgx
  have HSZ := Lib.hid hs0
  have HW0 := Lib.hid hW0
  have HQ0 := Lib.hid (show RecSt W0 gx 0 0 (.slice none 0 0) (.slice none 0 0) W0 from ⟨Only.refl _ _, hx0⟩)
  have HL := Lib.hid h
  have t1 := cell_at (i := 1) (v := .int .i64 tr) hd0 rfl
  clear hb0 hd0 hr0 hx0 h he htt hn hW0 hgx hs0
  -- whatever has turned besides the record, the table lies as it did
  have HBW := Lib.hid (fun (W : World) (hW : Only [gx] W0 W) => show Below w.heap.size w W from HB0.out.trans (hW.below (by have := HSZ.out; omega) (fun k hk => by simp at hk; have := HGX.out; omega)))
  have HDW := Lib.hid (fun (W : World) (hW : Only [gx] W0 W) => show W.heap[w.heap.size]? = some (.cells (tabC nm tr a l.length cap) 24 (0, 0)) from hW.heap HD0.out (by simp; have := HGX.out; omega))
  go_enter Tryz.func10, Tryz.ntmps10
  go_wp2_with fail
  rw [← HW0.out]
  rw [← HGX.out]
  refine (HTT.out _).mono ?_
  rintro e _ ⟨rfl, rfl⟩
  go_wp2_with fail
  clear t1
  go_loopw [4] (fun k wr => ∃ m i : Nat, i = tt + m ∧ i ≤ n ∧ k = .int .i64 i ∧ RecSt W0 gx (cntB (fun i => !isOwn l i) tt m) (cntB (isOwn l) tt m) (.slice none 0 0) (.slice none 0 0) wr) (fun k _ => n - (intOf k).toNat)
  case atStart => exact ⟨0, tt, by omega, by omega, rfl, HQ0.out⟩
  case round =>
    clear HQ0
    obtain ⟨m, i, hi', hin, rfl, hQ⟩ := hrel
    have HQ := Lib.hid hQ
    have HI := Lib.hid hi'
    have dl := loadTab_at (HDW.out _ hQ.only) rfl
    clear hQ hi'
    by_cases hlt : i < n
    · have hltI : (i : Int) < (n : Int) := by omega
      have hO := fun W h1 h2 => HO.out i (by omega) W h1 h2
      have his := HIS.out i
      have hf1 := cntB_succ (fun i => !isOwn l i) tt m
      have hu1 := cntB_succ (isOwn l) tt m
      have hfl := cntB_le (fun i => !isOwn l i) tt m
      have hul := cntB_le (isOwn l) tt m
      have hm128 : m ≤ 128 := by have := HI.out; omega
      rw [← HI.out] at hf1 hu1
      rw [his] at hf1 hu1
      generalize ownP l 0 (i : Int) = O at hf1 hu1 hO
      have HOC := Lib.hid hO
      clear hO his
      generalize hcf : cntB (fun i => !isOwn l i) tt m = cf at *
      generalize hcu : cntB (isOwn l) tt m = cu at *
      clear hcf hcu
      go_wp2_with fail
      refine (HTR.out _).mono ?_
      rintro e w1 ⟨rfl, hb1⟩
      have HQ1 := Lib.hid (HQ.out.below hb1)
      clear hb1 dl
      have dl1 := loadTab_at (HDW.out _ HQ1.out.only) rfl
      go_wp2_with fail
      refine (HOC.out _ (HL.out.below ((HBW.out _ HQ1.out.only).mono hB)) (Nat.le_trans hB (HBW.out _ HQ1.out.only).size)).mono ?_
      rintro e w2 ⟨rfl, hb2⟩
      have hq2 := HQ1.out.below hb2
      have g0 := cell_at (i := 0) (v := .int .i64 cf) hq2.row rfl
      have g1 := cell_at (i := 1) (v := .int .i64 cu) hq2.row rfl
      have f0 := free_at hq2.row 0
      have f1 := free_at hq2.row 1
      have HQ2 := Lib.hid hq2
      clear hb2 dl1 hq2
      cases O with
      | none =>
        have HN := Lib.hid hf1
        have HN2 := Lib.hid hu1
        have HS := Lib.hid (HQ2.out.set0 (cf + 1))
        clear hf1 hu1
        simp only [ownR]
        go_wp2_with fail
        go_roundw
        case rel => exact ⟨m + 1, i + 1, by have := HI.out; omega, by omega, by go_num, by rw [HN.out, HN2.out]; exact HS.out⟩
        case measure => simp [intOf]; omega
      | some x =>
        have HN := Lib.hid hf1
        have HN2 := Lib.hid hu1
        have HS := Lib.hid (HQ2.out.set1 (cu + 1))
        clear hf1 hu1
        simp only [ownR]
        go_wp2_with fail
        go_roundw
        case rel => exact ⟨m + 1, i + 1, by have := HI.out; omega, by omega, by go_num, by rw [HN.out, HN2.out]; exact HS.out⟩
        case measure => simp [intOf]; omega
    · have hi'' : i = n := by omega
      have hltI : ¬ (i : Int) < (n : Int) := by omega
      have HQF := Lib.hid (show RecSt W0 gx FN UN (.slice none 0 0) (.slice none 0 0) wr by
        rw [HF.out, HU.out, show n - tt = m by have := HI.out; omega]; exact HQ.out)
      clear HQ
      go_wp2_with fail
      refine (HTR.out _).mono ?_
      rintro e w1 ⟨rfl, hb1⟩
      have HQ1 := Lib.hid (HQF.out.below hb1)
      clear hb1 dl
      have dl1 := loadTab_at (HDW.out _ HQ1.out.only) rfl
      go_wp2_with fail
      refine (HRF.out _ (HL.out.below ((HBW.out _ HQ1.out.only).mono hB)) (Nat.le_trans hB (HBW.out _ HQ1.out.only).size)).mono ?_
      rintro e w9 ⟨ra, rc, rfl, hR, hb9, hfr⟩
      have hq9 := HQ1.out.below hb9
      have HQ9 := Lib.hid hq9
      have HRR := Lib.hid hR
      have hgw : gx < w1.heap.size := lt_of_block HQ1.out.row
      have HFR := Lib.hid (fun (p : Addr) (hp : ra = some p) => show p.block ≠ gx from by have := hfr p hp; omega)
      have H90 := Lib.hid (show W0.heap.size ≤ w9.heap.size from Nat.le_trans HQ1.out.only.size hb9.size)
      have HGW := Lib.hid (show gx < W0.heap.size by have := HSZ.out; have := HGX.out; omega)
      have HTP0 := Lib.hid (show TP = [] ++ tentR (RP.drop 0) from HTP.out)
      clear dl1 hq9 hR hb9 hfr hgw
      go_wp2_with fail
      obtain ⟨wo1, rfl⟩ : ∃ wo1, wo1 = wr := ⟨wr, rfl⟩
      go_loopw [47] (fun k wr => ∃ (j : Nat) (out : List Rn) (V2 : Value), j ≤ RP.length ∧ k = .int .i64 j ∧ TP = out ++ tentR (RP.drop j) ∧ Only [gx] w9 wr ∧ RecSt W0 gx FN UN V2 (.slice none 0 0) wr ∧ wr.ownsRow w9.heap.size 40 2 V2 out.length (refsF out)) (fun k _ => RP.length - (intOf k).toNat)
      case atStart => exact ⟨0, [], _, by omega, rfl, HTP0.out, Only.refl _ _, HQ9.out, own_nil _ _ _ _⟩
      case round =>
        clear HTP0 HQ9
        obtain ⟨j, out, V2, hj, rfl, hT, hon, hQ, ho⟩ := hrel
        have HON := Lib.hid hon
        have HQ := Lib.hid hQ
        have HOW := Lib.hid ho
        obtain ⟨oa, oc, rfl⟩ := row_slice ho
        by_cases hlt : j < RP.length
        · obtain ⟨b, off, rfl, hbb, hx, hy⟩ := HRR.out.get hlt
          have hbg := HFR.out _ rfl
          have x0 := (hon.cell (p := ⟨b, off + j * 2, none⟩) hbb (by simpa using hbg)).trans hx
          have x1 := (hon.cell (p := ⟨b, off + j * 2 + 1, none⟩) hbb (by simpa using hbg)).trans hy
          rw [List.drop_eq_getElem_cons hlt, tentR] at hT
          have hol : out.length ≤ 1000 := by
            have h1 := tentR_len RP
            have h2 : out.length ≤ TP.length := by rw [hT, List.length_append]; omega
            have h3 := HTP.out
            rw [h3] at h2; omega
          clear hx hy hon hQ ho hbg
          generalize RP[j] = r at hT x0 x1
          obtain ⟨x, y⟩ := r
          simp only at hT x0 x1
          have dl0 := loadRef_mid x0 x1
          have dl0' : (loadRef ⟨b, off + j * 2, none⟩).run Tryz.prog (wr.alloc (.cells #[.int .i64 0, .int .i64 0] 40)) = .ok (.agg #[.int .i64 x, .int .i64 y]) (wr.alloc (.cells #[.int .i64 0, .int .i64 0] 40)) := by
            have hbl : b < wr.heap.size := block_lt_of_cell x0
            have hba := box_below wr #[.int .i64 0, .int .i64 0] 40
            exact loadRef_mid ((hba.cell (p := ⟨b, off + j * 2, none⟩) hbl).trans x0) ((hba.cell (p := ⟨b, off + j * 2 + 1, none⟩) hbl).trans x1)
          obtain ⟨W1, hW1⟩ : ∃ W1, W1 = (wr.alloc (.cells #[.int .i64 0, .int .i64 0] 40)).setRow wr.heap.size #[.int .i64 x, .int .i64 y] := ⟨_, rfl⟩
          have st1 := storeRef_at (cs := #[.int .i64 x, .int .i64 y]) (heap_alloc_new wr (.cells #[.int .i64 0, .int .i64 0] 40)) rfl rfl (by simp [Value.oneCell'])
          have hg1 : W1.heap[wr.heap.size]? = some (.cells #[.int .i64 x, .int .i64 y] 40 (0, 0)) := by rw [hW1]; exact setRow_heap _ _ _ _ _ _ (heap_alloc_new _ _)
          have hb1 : Below wr.heap.size wr W1 := by rw [hW1]; exact Below.setRow (box_below _ _ _) (Nat.le_refl _) _
          rw [← hW1] at st1
          have HON1 := Lib.hid (HON.out.step_below hb1)
          have HQ1 := Lib.hid (HQ.out.below hb1)
          have ho1 := own_below HOW.out hb1
          have dl1 := loadRef_at hg1 rfl
          have c1 := cell_at (i := 1) (v := .int .i64 y) hg1 rfl
          have HO1 := Lib.hid ho1
          clear hW1 hg1 hb1 ho1 x0 x1
          by_cases hy0 : y = 0
          · have e1 : (y != 0) = false := by simp [hy0]
            have HT := Lib.hid (show TP = out ++ tentR (RP.drop (j + 1)) by rw [hT, if_pos hy0])
            clear hT hy0
            go_wp2_with fail
            go_roundw
            case rel => exact ⟨j + 1, out, _, by omega, by go_num, HT.out, HON1.out, HQ1.out, HO1.out⟩
            case measure => simp [intOf]; omega
          · have e1 : (y != 0) = true := by simp [hy0]
            have HT := Lib.hid (show TP = (out ++ [(x, y)]) ++ tentR (RP.drop (j + 1)) by rw [hT, if_neg hy0]; simp)
            have g2 := cell_at (i := 2) (v := .slice oa out.length oc) HQ1.out.row rfl
            have hlow := HO1.out
            clear hT hy0
            go_wp2_with (refine wpList_append_own _ rfl _ _ 25 rfl w9.heap.size 40 i0 (.agg #[.int .i64 0, .int .i64 0]) 2 16 Tryz.underlying25 hi0 hz0 hz1 hz2 rfl (by decide) _ _ _ rfl (hlow.alloc _) _ 1 1 [.int .i64 x, .int .i64 y] rfl rfl ?b1 ?b2 ?b3 ?b4 ?b5 ?_)
            try (case b1 => exact news_at (cs := #[.int .i64 x, .int .i64 y]) (heap_alloc_new _ _))
            try (case b2 => simp [Value.oneCell'])
            try (case b3 => unfold maxLen; omega)
            try (case b4 => omega)
            try (case b5 => have := HON1.out.size; simp; omega)
            intro v6 w6 ho6 hg6 _
            obtain ⟨va, vc, rfl⟩ := row_slice ho6
            have hqa := HQ1.out.below (box_below W1 #[.int .i64 x, .int .i64 y] 40)
            have hq6 := hqa.grown hg6 (fun k hk => Nat.le_trans H90.out (row_own hlow hk)) HGW.out
            have hn6 : Only [gx] w9 w6 := (HON1.out.step_below (box_below W1 #[.int .i64 x, .int .i64 y] 40)).grown hg6 (fun k hk => Or.inr (row_own hlow hk))
            have c2 := cell_at (i := 2) (v := .slice oa out.length oc) hq6.row rfl
            have f2 := free_at hq6.row 2
            have HN6 := Lib.hid (hn6.setCell (p := ⟨gx, 2, none⟩) (by simp) (.slice va (out.length + 1) vc))
            have HQ6 := Lib.hid (hq6.set2 (.slice va (out.length + 1) vc))
            have HO6 := Lib.hid (own_setCell (i := 2) (show w6.ownsRow w9.heap.size 40 2 (.slice va (out.length + 1) vc) (out ++ [(x, y)]).length (refsF (out ++ [(x, y)])) by rw [List.length_append, refsF_append]; exact ho6) (Nat.lt_of_lt_of_le HGW.out H90.out) (.slice va (out.length + 1) vc))
            clear ho6 hg6 hlow g2 hqa hq6 hn6 dl0 dl0' dl1 st1 c1
            go_wp2_with fail
            go_roundw
            case rel => exact ⟨j + 1, out ++ [(x, y)], _, by omega, by go_num, HT.out, HN6.out, HQ6.out, HO6.out⟩
            case measure => simp [intOf]; omega
        · have HT := Lib.hid (show TP = out by rw [hT, List.drop_eq_nil_of_le (by omega)]; simp [tentR])
          clear hT hon hQ ho
          have HOT := Lib.hid (show wr.ownsRow W0.heap.size 40 2 (.slice oa out.length oc) TP.length (refsF TP) by rw [HT.out]; exact own_mono HOW.out H90.out)
          have HDT := Lib.hid (HDW.out _ HQ.out.only)
          obtain ⟨gm, hgm⟩ : ∃ gm, gm = wr.heap.size := ⟨_, rfl⟩
          have hbm := box_map wr
          obtain ⟨w15, hw15⟩ : ∃ w15, w15 = wr.alloc (.map #[] 0) := ⟨_, rfl⟩
          rw [← hw15] at hbm
          have HQM := Lib.hid (HQ.out.below hbm)
          have HOM := Lib.hid (own_below HOT.out hbm)
          have HBM := Lib.hid (HBW.out _ HQM.out.only)
          have HCT := Lib.hid (show CtSt w15 gm [] w15 from ⟨Only.refl _ _, [], by rw [hgm, hw15]; exact amap_new wr _ _ _, fun t => rfl⟩)
          have HGM := Lib.hid (show gm < w15.heap.size by rw [hgm, hw15]; simp)
          have HGM0 := Lib.hid (show W0.heap.size ≤ gm by rw [hgm]; exact HQ.out.only.size)
          have HGMO := Lib.hid (show ∀ k, (Value.slice oa out.length oc).ownBlock = some k → k ≠ gm by
            intro k hk; have := row_own_lt HOT.out hk; rw [hgm]; omega)
          have hmk : (Instr.makeMap 66 none).run Tryz.prog wr = .ok (.map (some gm)) w15 := by rw [hgm, hw15]; exact run_makeMap _ _
          have t2 := cell_at (i := 2) (v := .slice a l.length cap) (HDW.out _ HQM.out.only) rfl
          clear hgm hbm hw15
          clear HTR HTT HRF HO HIS HF HU HD0
          go_wp2_with fail
          clear t2 hmk
          -- the labels' tracks are counted
          have HBG := Lib.hid (fun (W : World) (hW : Only [gm] w15 W) => show Below w.heap.size w W from HBM.out.trans (hW.below HBM.out.size (fun k hk => by simp at hk; have := HGM0.out; have := HSZ.out; omega)))
          obtain ⟨wo2, rfl⟩ : ∃ wo2, wo2 = wr := ⟨wr, rfl⟩
          go_loopw [65] (fun k wr => ∃ (j : Nat) (ts : List Nat), j ≤ l.length ∧ k = .int .i64 j ∧ ts = allT (l.take j) ∧ ts.length ≤ 128000 * j ∧ CtSt w15 gm ts wr) (fun k _ => l.length - (intOf k).toNat)
          case atStart => exact ⟨0, [], by omega, rfl, rfl, by simp, HCT.out⟩
          case round =>
            clear HCT
            obtain ⟨j2, ts, hj2, rfl, hts, htl, hC⟩ := hrel
            have HC := Lib.hid hC
            have HTS := Lib.hid hts
            clear hC hts
            by_cases hlt2 : j2 < l.length
            · have hb1 := HBG.out _ HC.out.only
              have hsn := allT_snoc l j2 hlt2
              rw [← HTS.out] at hsn
              obtain ⟨b, off, rfl, hbb, hL⟩ := HL.out.get hlt2
              have hLw := hL.below (hb1.mono hB) hbb
              obtain ⟨ea, ec, h4, hRn⟩ := hL.c4
              have h4w := (hb1.cell (p := ⟨b, off + j2 * 5 + 4, none⟩) (Nat.lt_of_lt_of_le hbb hB)).trans h4
              have hel := HE.out l[j2] (List.getElem_mem hlt2)
              have HRN := Lib.hid hRn
              have HSN := Lib.hid hsn
              clear hL hRn h4 hsn
              generalize l[j2] = x at HSN hLw hel h4w HRN
              have hbw : b < wr.heap.size := block_lt_of_cell hLw.c0
              have dl0 := loadLab_mid hLw.c0 hLw.c1 hLw.c2 hLw.c3 h4w
              obtain ⟨W1, hW1⟩ : ∃ W1, W1 = (wr.alloc (.cells zeroV 43)).setRow wr.heap.size (labV x ea ec) := ⟨_, rfl⟩
              have st1 := storeLab_at (cs := labV x ea ec) (heap_alloc_new wr (.cells zeroV 43)) rfl rfl (by simp [Value.oneCell', sv])
              have hg1 : W1.heap[wr.heap.size]? = some (.cells (labV x ea ec) 43 (0, 0)) := by rw [hW1]; exact setRow_heap _ _ _ _ _ _ (heap_alloc_new _ _)
              have hb2 : Below wr.heap.size wr W1 := by rw [hW1]; exact Below.setRow (box_below _ _ _) (Nat.le_refl _) _
              rw [← hW1] at st1
              have c4 := cell_at (i := 4) (v := .slice ea x.ext.length ec) hg1 rfl
              have HC1 := Lib.hid (HC.out.below hb2)
              clear hLw h4w hW1 hg1 hb1 hb2
              simp only [labV] at dl0 st1
              generalize sv x.name = nv at *
              generalize sv x.note = nv2 at *
              generalize x.id = xi at *
              generalize x.unit = xu at *
              generalize x.ext = ext at *
              have HS0 := Lib.hid (show ts = ts ++ seqP (ext.take 0) by simp [seqP])
              go_wp2_with fail
              clear dl0 st1 c4
              obtain ⟨wo3, rfl⟩ : ∃ wo3, wo3 = wr := ⟨wr, rfl⟩
              go_loopw [72] (fun k wr => ∃ (i : Nat) (t4 : List Nat), i ≤ ext.length ∧ k = .int .i64 i ∧ t4 = ts ++ seqP (ext.take i) ∧ t4.length ≤ ts.length + 128 * i ∧ CtSt w15 gm t4 wr) (fun k _ => ext.length - (intOf k).toNat)
              case atStart => exact ⟨0, ts, by omega, rfl, HS0.out, by simp, HC1.out⟩
              case round =>
                clear HC1 HS0
                obtain ⟨i, t4, hi, rfl, ht4, h4l, hC⟩ := hrel
                have HC4 := Lib.hid hC
                have HT4 := Lib.hid ht4
                clear hC ht4
                by_cases hlt4 : i < ext.length
                · have hb1 := HBG.out _ HC4.out.only
                  have hsn := seqP_snoc ext i hlt4
                  have hok := HRN.out.ok ext[i] (List.getElem_mem hlt4)
                  obtain ⟨b2, o2, rfl, hbb2, hx, hy⟩ := HRN.out.get hlt4
                  have x0 := (hb1.cell (p := ⟨b2, o2 + i * 2, none⟩) (Nat.lt_of_lt_of_le hbb2 hB)).trans hx
                  have x1 := (hb1.cell (p := ⟨b2, o2 + i * 2 + 1, none⟩) (Nat.lt_of_lt_of_le hbb2 hB)).trans hy
                  generalize ext[i] = r at hsn hok x0 x1
                  have hcl := clipP_le r
                  have hsz := fun W => size_lit W r.1 r.2 hok
                  have hat := fun W m hm => at_lit W r.1 r.2 hok m hm
                  rw [show (r.1, r.2) = r from rfl] at hsz hat
                  generalize clipP r = fc at hsn hcl hsz hat
                  obtain ⟨f, c⟩ := fc
                  obtain ⟨p, q⟩ := r
                  simp only at hsn hcl hsz hat x0 x1
                  have HSN4 := Lib.hid (show t4 ++ List.range' f c = ts ++ seqP (ext.take (i + 1)) by rw [hsn, HT4.out, List.append_assoc])
                  have HSIZE := Lib.hid hsz
                  have HAT := Lib.hid hat
                  have dl0 := loadRn_mid x0 x1
                  have dl0' : (loadRn ⟨b2, o2 + i * 2, none⟩).run Tryz.prog (wr.alloc (.cells #[.int .i64 0, .int .i64 0] 68)) = .ok (.agg #[.int .i64 p, .int .i64 q]) (wr.alloc (.cells #[.int .i64 0, .int .i64 0] 68)) := by
                    have hbl : b2 < wr.heap.size := block_lt_of_cell x0
                    have hba := box_below wr #[.int .i64 0, .int .i64 0] 68
                    exact loadRn_mid ((hba.cell (p := ⟨b2, o2 + i * 2, none⟩) hbl).trans x0) ((hba.cell (p := ⟨b2, o2 + i * 2 + 1, none⟩) hbl).trans x1)
                  obtain ⟨W2, hW2⟩ : ∃ W2, W2 = (wr.alloc (.cells #[.int .i64 0, .int .i64 0] 68)).setRow wr.heap.size #[.int .i64 p, .int .i64 q] := ⟨_, rfl⟩
                  have st1 := storeRn_at (cs := #[.int .i64 p, .int .i64 q]) (heap_alloc_new wr (.cells #[.int .i64 0, .int .i64 0] 68)) rfl rfl (rnC_one _ _)
                  have hg2 : W2.heap[wr.heap.size]? = some (.cells #[.int .i64 p, .int .i64 q] 68 (0, 0)) := by rw [hW2]; exact setRow_heap _ _ _ _ _ _ (heap_alloc_new _ _)
                  have hb2 : Below wr.heap.size wr W2 := by rw [hW2]; exact Below.setRow (box_below _ _ _) (Nat.le_refl _) _
                  rw [← hW2] at st1
                  have dl1 := loadRn_at hg2 rfl
                  have HG2 := Lib.hid hg2
                  have HC2 := Lib.hid (HC4.out.below hb2)
                  have hgne : wr.heap.size ≠ gm := by have := HC4.out.only.size; have := HGM.out; omega
                  clear hW2 hg2 hb1 hb2 hx hy x0 x1 hsn hok hsz hat
                  go_wp2_with fail
                  refine (HSIZE.out _).mono ?_
                  rintro e w3 ⟨rfl, hb3⟩
                  have hb3' := (box_below W2 #[.int .i64 p, .int .i64 q] 68).trans (hb3.mono (box_below W2 #[.int .i64 p, .int .i64 q] 68).size)
                  have HC3 := Lib.hid (HC2.out.below hb3')
                  have HG3 := Lib.hid ((hb3'.block wr.heap.size (lt_of_block HG2.out)).trans HG2.out)
                  have HR0 := Lib.hid (show t4 = t4 ++ List.range' f 0 by simp)
                  clear hb3 hb3' dl0 dl0' dl1 st1
                  go_wp2_with fail
                  obtain ⟨gr, hgr⟩ : ∃ gr, gr = wr.heap.size := ⟨_, rfl⟩
                  rw [← hgr] at HG3 hgne ⊢
                  have HGR := Lib.hid hgr
                  clear hgr
                  obtain ⟨wo4, rfl⟩ : ∃ wo4, wo4 = wr := ⟨wr, rfl⟩
                  go_loopw [79] (fun k wr => ∃ (m : Nat) (t5 : List Nat), m ≤ c ∧ k = .int .i64 m ∧ t5 = t4 ++ List.range' f m ∧ t5.length ≤ t4.length + m ∧ CtSt w15 gm t5 wr ∧ wr.heap[gr]? = some (.cells #[.int .i64 p, .int .i64 q] 68 (0, 0))) (fun k _ => c - (intOf k).toNat)
                  case atStart => exact ⟨0, t4, by omega, rfl, HR0.out, by simp, HC3.out, HG3.out⟩
                  case round =>
                    clear HC3 HG3 HR0
                    obtain ⟨m, t5, hm, rfl, ht5, h5l, hC, hgR⟩ := hrel
                    have HC5 := Lib.hid hC
                    have HT5 := Lib.hid ht5
                    have HGR5 := Lib.hid hgR
                    have dl1 := loadRn_at hgR rfl
                    clear hC ht5 hgR
                    by_cases hlm : m < c
                    · have hlmI : (m : Int) < (c : Int) := by omega
                      obtain ⟨k0, hk0⟩ : ∃ k0, k0 = f + m := ⟨_, rfl⟩
                      have hat := fun W => HAT.out W m hlm
                      rw [← hk0] at hat
                      have HATM := Lib.hid hat
                      have HN5 := Lib.hid (show t5 ++ [k0] = t4 ++ List.range' f (m + 1) by rw [HT5.out, List.range'_concat, Nat.one_mul, List.append_assoc, hk0])
                      have hk128 : k0 ≤ 128 := by omega
                      clear hat hk0
                      go_wp2_with fail
                      refine (HATM.out _).mono ?_
                      rintro e w6 ⟨rfl, hb6⟩
                      have hb6' := (box_below wr #[.int .i64 p, .int .i64 q] 68).trans (hb6.mono (box_below wr #[.int .i64 p, .int .i64 q] 68).size)
                      have HC6 := Lib.hid (HC5.out.below hb6')
                      have HG6 := Lib.hid ((hb6'.block gr (lt_of_block HGR5.out)).trans HGR5.out)
                      obtain ⟨M, hM1, hM2⟩ := HC6.out.map
                      have hi64 : I64 (k0 : Int) := i64_of (by omega) (by omega)
                      have hlk := lookI hM1 k0 hi64
                      rw [hM2 k0] at hlk
                      have hcnt : t5.count k0 ≤ t5.length := List.count_le_length
                      have HM1 := Lib.hid hM1
                      have HM2 := Lib.hid hM2
                      have HK := Lib.hid hi64
                      generalize hcc : t5.count k0 = cnt at hlk hcnt
                      have HCC := Lib.hid hcc
                      have hcb : cnt ≤ 1000000000 := by omega
                      clear hb6 hb6' hM1 hM2 hi64 hcc dl1
                      go_wp2_with (refine wpList_aupdate rfl _ _ _ rfl keyInt Tryz.underlying66 HM1.out rfl (k0 : Int) rfl HK.out ((cnt : Int) + 1) rfl ?_)
                      intro w7 hm7 hg7 _
                      have HC7 := Lib.hid (HC6.out.grown (k := k0) HM2.out (by rw [HCC.out]; exact hm7) hg7)
                      have HG7 := Lib.hid ((hg7.block gr (lt_of_block HG6.out) (fun e => hgne (Option.some.inj e))).trans HG6.out)
                      clear hm7 hg7 hlk
                      go_wp2_with fail
                      go_roundw
                      case rel => exact ⟨m + 1, t5 ++ [k0], by omega, by go_num, HN5.out, by simp; omega, HC7.out, HG7.out⟩
                      case measure => simp [intOf]; omega
                    · have hmc : m = c := by omega
                      have hlmI : ¬ (m : Int) < (c : Int) := by omega
                      have HTT5 := Lib.hid (show t5 = ts ++ seqP (ext.take (i + 1)) by rw [HT5.out, hmc, HSN4.out])
                      have h5b : t5.length ≤ ts.length + 128 * (i + 1) := by omega
                      clear dl1
                      go_wp2_with fail
                      go_roundw
                      case rel => exact ⟨i + 1, t5, by omega, by go_num, HTT5.out, h5b, HC5.out⟩
                      case measure => simp [intOf]; omega
                · have hie : i = ext.length := by omega
                  have hltI : ¬ (i : Int) < (ext.length : Int) := by omega
                  have HTT4 := Lib.hid (show t4 = allT (l.take (j2 + 1)) by rw [HT4.out, hie, List.take_length, HSN.out])
                  have h4b : t4.length ≤ 128000 * (j2 + 1) := by omega
                  go_wp2_with fail
                  go_roundw
                  case rel => exact ⟨j2 + 1, t4, by omega, by go_num, HTT4.out, h4b, HC4.out⟩
                  case measure => simp [intOf]; omega
            · have hje : j2 = l.length := by omega
              have HTA := Lib.hid (show ts = allT l by rw [HTS.out, hje, List.take_length])
              have hltI : ¬ (j2 : Int) < (l.length : Int) := by omega
              obtain ⟨M, hM1, hM2⟩ := HC.out.map
              have HM1 := Lib.hid hM1
              have HM2 := Lib.hid hM2
              have hgmx : gm ≠ gx := by have := HGM0.out; have := HGW.out; omega
              have HRC := Lib.hid (show RecSt wr gx FN UN (.slice oa out.length oc) (.slice none 0 0) wr from ⟨Only.refl _ _, HC.out.only.heap HQM.out.row (by simpa using hgmx.symm)⟩)
              have HGLT := Lib.hid (lt_of_block HRC.out.row)
              have HOV := Lib.hid (own_only HOM.out HC.out.only (fun k hk => by simpa using HGMO.out k hk))
              have HON3 := Lib.hid (show Only [gx] W0 wr from HQM.out.only.then HC.out.only (fun i hi => by simp at hi; subst hi; exact Or.inr HGM0.out))
              have HGM2 := Lib.hid (amap_lt hM1)
              have htlb : ts.length ≤ 128000000 := by omega
              have HSP0 := Lib.hid (show SP = sharedS ts 128 by rw [HSP.out, HTA.out])
              clear hM1 hM2 hlt2
              go_wp2_with fail
              obtain ⟨wo5, hwo5⟩ : ∃ wo5, wo5 = wr := ⟨wr, rfl⟩
              rw [← hwo5] at HC HM1 HRC HGLT HOV HON3 HGM2 ⊢
              clear hwo5
              go_loopw [96] (fun k wr => ∃ (i : Nat) (V3 : Value), i ≤ 128 ∧ k = .int .i64 i ∧ RecSt wo5 gx FN UN (.slice oa out.length oc) V3 wr ∧ wr.ownsRow wo5.heap.size 3 1 V3 (sharedS ts i).length ((sharedS ts i).map iv)) (fun k _ => 128 - (intOf k).toNat)
              case atStart => exact ⟨0, _, by omega, rfl, HRC.out, own_nil _ _ _ _⟩
              case round =>
                clear HRC
                obtain ⟨i, V3, hi, rfl, hQ, ho⟩ := hrel
                have HQ6 := Lib.hid hQ
                have HO6 := Lib.hid ho
                obtain ⟨oa3, oc3, rfl⟩ := row_slice ho
                have hsl := sharedS_len ts i
                have hss := sharedS_succ ts i
                clear hQ ho
                by_cases hlt6 : i < 128
                · have hltI6 : (i : Int) < 128 := by omega
                  have hmap := amap_keep HM1.out (HQ6.out.only.block gm HGM2.out (by simpa using hgmx))
                  have hlk := lookI hmap (i : Int) (i64_of (by omega) (by omega))
                  rw [HM2.out i] at hlk
                  have hcnt : ts.count i ≤ ts.length := List.count_le_length
                  generalize ts.count i = cnt at hlk hcnt hss
                  clear hmap
                  by_cases hc1 : 1 < cnt
                  · have hcI : (1 : Int) < (cnt : Int) := by omega
                    have g3 := cell_at (i := 3) (v := .slice oa3 (sharedS ts i).length oc3) HQ6.out.row rfl
                    have hlow := HO6.out
                    have HS6 := Lib.hid (show sharedS ts (i + 1) = sharedS ts i ++ [i] by rw [hss, if_pos hc1])
                    clear hss
                    go_wp2_with (refine wpList_append_own _ rfl _ _ 26 rfl wo5.heap.size 3 j0 (.int .i64 0) 1 8 Tryz.underlying26 kj0 kz0 kz1 kz2 rfl (by decide) _ _ _ rfl (hlow.alloc _) _ 1 1 [.int .i64 i] rfl rfl ?d1 ?d2 ?d3 ?d4 ?d5 ?_)
                    try (case d1 => exact news_at (cs := #[.int .i64 i]) (heap_alloc_new _ _))
                    try (case d2 => simp [Value.oneCell'])
                    try (case d3 => unfold maxLen; omega)
                    try (case d4 => omega)
                    try (case d5 => have := HQ6.out.only.size; simp; omega)
                    intro v6 w6 ho6 hg6 _
                    obtain ⟨va, vc, rfl⟩ := row_slice ho6
                    have hq6 := (HQ6.out.below (box_below wr #[.int .i64 i] 3)).grown hg6 (fun k hk => row_own hlow hk) HGLT.out
                    have c3 := cell_at (i := 3) (v := .slice oa3 (sharedS ts i).length oc3) hq6.row rfl
                    have f3 := free_at hq6.row 3
                    have HQ7 := Lib.hid (hq6.set3 (.slice va ((sharedS ts i).length + 1) vc))
                    have HO7 := Lib.hid (own_setCell (i := 3) (show w6.ownsRow wo5.heap.size 3 1 (.slice va ((sharedS ts i).length + 1) vc) (sharedS ts (i + 1)).length ((sharedS ts (i + 1)).map iv) by rw [HS6.out, List.length_append, List.map_append]; exact ho6) HGLT.out (.slice va ((sharedS ts i).length + 1) vc))
                    clear ho6 hg6 hlow g3 hq6 hlk
                    go_wp2_with fail
                    go_roundw
                    case rel => exact ⟨i + 1, _, by omega, by go_num, HQ7.out, HO7.out⟩
                    case measure => simp [intOf]; omega
                  · have hcI : ¬ (1 : Int) < (cnt : Int) := by omega
                    have HS6 := Lib.hid (show sharedS ts (i + 1) = sharedS ts i by rw [hss, if_neg hc1, List.append_nil])
                    clear hss
                    go_wp2_with fail
                    go_roundw
                    case rel => exact ⟨i + 1, _, by omega, by go_num, HQ6.out, by rw [HS6.out]; exact HO6.out⟩
                    case measure => simp [intOf]; omega
                · obtain rfl : i = 128 := by omega
                  have HFIN := Lib.hid (show wr.ownsRow wo5.heap.size 3 1 (.slice oa3 (sharedS ts 128).length oc3) SP.length (SP.map iv) by rw [HSP0.out]; exact HO6.out)
                  have hall : Only [gx] W0 wr := HON3.out.trans HQ6.out.only
                  have hres := hall.heap HRES.out (by simp; have := HGX.out; omega)
                  have dlx := loadSc_at HQ6.out.row rfl
                  have stx := storeSc_at (cs := scV FN UN (.slice oa out.length oc) (.slice oa3 (sharedS ts 128).length oc3)) hres rfl rfl (by simp [Value.oneCell'])
                  have HGF := Lib.hid (setRow_heap _ _ _ (scV FN UN (.slice oa out.length oc) (.slice oa3 (sharedS ts 128).length oc3)) _ _ hres)
                  have hsr : Only [w.heap.size + 1] wr (wr.setRow (w.heap.size + 1) (scV FN UN (.slice oa out.length oc) (.slice oa3 (sharedS ts 128).length oc3))) := (Only.refl _ _).setRow (by simp) _
                  have hov := own_only HOV.out HQ6.out.only (fun k hk => by have := row_own HOV.out hk; have := HGW.out; simp; omega)
                  have HV2 := Lib.hid (own_mono (own_only hov hsr (fun k hk => by have := row_own hov hk; have := HSZ.out; simp; omega)) (show w.heap.size ≤ W0.heap.size from HB0.out.size))
                  have hw5 : W0.heap.size ≤ wo5.heap.size := HON3.out.size
                  have HV3 := Lib.hid (own_mono (own_only HFIN.out hsr (fun k hk => by have := row_own HFIN.out hk; have := HSZ.out; simp; omega)) (show w.heap.size ≤ wo5.heap.size from Nat.le_trans HB0.out.size hw5))
                  have HBF := Lib.hid (Below.setRow (HBW.out _ hall) (show w.heap.size ≤ w.heap.size + 1 by omega) (scV FN UN (.slice oa out.length oc) (.slice oa3 (sharedS ts 128).length oc3)))
                  have hltI6 : ¬ ((128 : Nat) : Int) < 128 := by omega
                  clear hres hsr hov hall hss
                  go_wp2_with fail
                  refine ret_sc (cs := scV FN UN (.slice oa out.length oc) (.slice oa3 (sharedS ts 128).length oc3)) rfl rfl rfl rfl HGF.out ?_
                  exact ⟨_, _, rfl, HV2.out, HV3.out, HBF.out⟩

end Go.Proofs.YtcidbmldbikknaaGreatDoor

/-
  Walk: the check of a table, by the reference. Conditions: a table in memory; numbers of 64 bits; at most 1000 labels of at most 1000 extents.
-/
import Derived.Test.YtcidbmldbikknaaGreatDoorG3
namespace Go.Proofs.YtcidbmldbikknaaGreatDoor
open Go.RowKit Go.Sort
attribute [local go_sem ↓] loadTab_down loadSc_down storeSc_down

theorem times_count (l : List Lab) (t : Nat) : timesP l (t : Int) = (allT l).count t := by
  unfold timesP
  rw [List.count_eq_length_filter]
  congr 1
  refine List.filter_congr (fun x _ => ?_)
  by_cases h : x = t
  · simp [h]
  · have : ¬ (x : Int) = (t : Int) := by omega
    simp [h, this]
theorem idxS_some (t : Nat) : ∀ (S : List Nat) (n : Nat), (idxS S n (t : Int)).isSome = decide (0 < S.count t)
  | [], n => rfl
  | x :: S, n => by
    unfold idxS
    by_cases h : x = t
    · subst h; simp
    · have h2 : ¬ (x : Int) = (t : Int) := by omega
      rw [List.count_cons]
      simp [h, h2, idxS_some t S (n + 1)]
theorem own_times (t : Nat) : ∀ (l : List Lab) (n : Nat), (ownP l n (t : Int)).isSome = decide (0 < (allT l).count t)
  | [], n => rfl
  | x :: l, n => by
    have h1 : (idxP x.ext 0 (t : Int)).isSome = decide (0 < (seqP x.ext).count t) := by rw [← idxS_P]; exact idxS_some t _ _
    unfold ownP allT
    rw [List.count_append]
    cases hx : idxP x.ext 0 (t : Int) with
    | some k =>
      rw [hx] at h1
      have : 0 < (seqP x.ext).count t := by simpa using h1.symm
      simp; omega
    | none =>
      rw [hx] at h1
      have : ¬ 0 < (seqP x.ext).count t := by simpa using h1.symm
      simp only
      rw [own_times t l (n + 1), show (seqP x.ext).count t = 0 by omega, Nat.zero_add]
theorem isOwn_times (l : List Lab) (i : Nat) : isOwn l i = decide (0 < timesP l (i : Int)) := by
  unfold isOwn; rw [own_times, times_count]

set_option maxRecDepth 100000 in
set_option maxHeartbeats 8000000 in
theorem rtable_any (w : World) (B : Nat) (a : Option Addr) (cap : Nat) (nm : By) (tr : Int) (l : List Lab) (h : Labs w B a l) (hB : B ≤ w.heap.size) (hl : l.length ≤ 1000) (he : ∀ x ∈ l, x.ext.length ≤ 1000) :
    Calls Tryz.prog 11 #[.agg (tabC nm tr a l.length cap)] w fun e w' => ∃ V2 V3, e = .returned (.agg (scV (freeN tr l) (usedN tr l) V2 V3)) ∧
      w'.ownsRow w.heap.size 40 2 V2 (tentP l).length (refsF (tentP l)) ∧ w'.ownsRow w.heap.size 3 1 V3 (sharedP l).length ((sharedP l).map iv) ∧ Below w.heap.size w w' := by
  obtain ⟨j0, kj0, kz0, kz1, kz2⟩ := info_parts infoI
  obtain ⟨i0, hi0, hz0, hz1, hz2⟩ := info_parts infoR
  obtain ⟨tt, htt⟩ : ∃ tt : Nat, ttP tr = tt := ⟨(ttP tr).toNat, by unfold ttP; split <;> omega⟩
  obtain ⟨n, hn⟩ : ∃ n : Nat, trP tr = n := ⟨(trP tr).toNat, by unfold trP; split <;> omega⟩
  have htn : tt ≤ n ∧ n ≤ 128 := by
    unfold ttP at htt; unfold trP at hn
    split at hn <;> rename_i h0
    · rw [if_pos h0] at htt; omega
    · rw [if_neg h0] at htt; omega
  obtain ⟨htn1, htn2⟩ := htn
  have HU := Lib.hid (show usedN tr l = cntB (isOwn l) tt (n - tt) by unfold usedN; rw [htt, hn]; simp)
  have HF := Lib.hid (show freeN tr l = cntB (fun i => !isOwn l i) tt (n - tt) by unfold freeN; rw [htt, hn]; simp)
  generalize usedN tr l = UN at HU ⊢
  generalize freeN tr l = FN at HF ⊢
  have HO := Lib.hid (fun (i : Nat) W h1 h2 => times_any W B a cap nm tr l (i : Int) h1 h2 (by omega) he)
  have HIS := Lib.hid (fun i : Nat => isOwn_times l i)
  have HCN := Lib.hid (fun i : Nat => times_count l i)
  have HTR := Lib.hid (fun W => rtracks_any nm tr a l.length cap W)
  have HTT := Lib.hid (fun W => rtabletracks_any tr W)
  have HRF := Lib.hid (fun W h1 h2 => rrefs_any W B a cap nm tr l h1 h2 (by omega))
  have HTP := Lib.hid (show tentP l = tentR (refsP l) from rfl)
  have HSP := Lib.hid (show sharedP l = sharedS (allT l) 128 from rfl)
  have hrl : (refsP l).length ≤ 1000 := by unfold refsP; rw [sortR_len]; exact Nat.le_trans (refsU_len l) hl
  rw [hn] at HTR
  rw [htt] at HTT
  generalize tentP l = TP at HTP ⊢
  generalize sharedP l = SP at HSP ⊢
  generalize refsP l = RP at HTP HRF hrl
  have HE := Lib.hid he
  obtain ⟨W0, hW0⟩ : ∃ W0, W0 = ((w.alloc (.cells (tabC nm tr a l.length cap) 24)).alloc (.cells #[.int .i64 0, .int .i64 0, .slice none 0 0, .slice none 0 0, .slice none 0 0] 29)).alloc (.cells #[.int .i64 0, .int .i64 0, .slice none 0 0, .slice none 0 0, .slice none 0 0] 29) := ⟨_, rfl⟩
  have hb0 : Below w.heap.size w W0 := by rw [hW0]; exact (((Below.refl _ _).alloc (by simp) _).alloc (by simp) _).alloc (by simp; omega) _
  have hs0 : W0.heap.size = w.heap.size + 3 := by rw [hW0]; simp
  have hd0 : W0.heap[w.heap.size]? = some (.cells (tabC nm tr a l.length cap) 24 (0, 0)) := by
    rw [hW0]
    exact (halloc _ _ (by simp; omega)).trans ((halloc _ _ (by simp)).trans (heap_alloc_new _ _))
  have hr0 : W0.heap[w.heap.size + 1]? = some (.cells (scV 0 0 (.slice none 0 0) (.slice none 0 0)) 29 (0, 0)) := by
    rw [hW0]
    exact (halloc _ _ (by simp)).trans (two_new _ _ _ _ _)
  obtain ⟨gx, hgx⟩ : ∃ gx, gx = w.heap.size + 1 + 1 := ⟨_, rfl⟩
  have hx0 : W0.heap[gx]? = some (.cells (scV 0 0 (.slice none 0 0) (.slice none 0 0)) 29 (0, 0)) := by
    rw [hW0, hgx]
    have := heap_alloc_new ((w.alloc (.cells (tabC nm tr a l.length cap) 24)).alloc (.cells #[.int .i64 0, .int .i64 0, .slice none 0 0, .slice none 0 0, .slice none 0 0] 29)) (.cells #[.int .i64 0, .int .i64 0, .slice none 0 0, .slice none 0 0, .slice none 0 0] 29)
    have e : ((w.alloc (.cells (tabC nm tr a l.length cap) 24)).alloc (.cells #[.int .i64 0, .int .i64 0, .slice none 0 0, .slice none 0 0, .slice none 0 0] 29)).heap.size = w.heap.size + 1 + 1 := by simp
    rw [e] at this; exact this
  have HB0 := Lib.hid hb0
  have HD0 := Lib.hid hd0
  have HRES := Lib.hid hr0
  have HGX := Lib.hid hgx
  have HSZ := Lib.hid hs0
  have HW0 := Lib.hid hW0
  have HQ0 := Lib.hid (show RecSt W0 gx 0 0 (.slice none 0 0) (.slice none 0 0) W0 from ⟨Only.refl _ _, hx0⟩)
  have HL := Lib.hid h
  have t1 := cell_at (i := 1) (v := .int .i64 tr) hd0 rfl
  clear hb0 hd0 hr0 hx0 h he htt hn hW0 hgx hs0
  -- whatever has turned besides the record, the table lies as it did
  have HBW := Lib.hid (fun (W : World) (hW : Only [gx] W0 W) => show Below w.heap.size w W from HB0.out.trans (hW.below (by have := HSZ.out; omega) (fun k hk => by simp at hk; have := HGX.out; omega)))
  have HDW := Lib.hid (fun (W : World) (hW : Only [gx] W0 W) => show W.heap[w.heap.size]? = some (.cells (tabC nm tr a l.length cap) 24 (0, 0)) from hW.heap HD0.out (by simp; have := HGX.out; omega))
  go_enter Tryz.func11, Tryz.ntmps11
  go_wp2_with fail
  rw [← HW0.out]
  rw [← HGX.out]
  have st0 : (storeSc ⟨gx, 0, none⟩ (.agg #[.int .i64 0, .int .i64 0, .slice none 0 0, .slice none 0 0, .slice none 0 0])).run Tryz.prog W0 = .ok () W0 := by
    have h1 := storeSc_at (cs := #[.int .i64 0, .int .i64 0, .slice none 0 0, .slice none 0 0, .slice none 0 0]) HQ0.out.row rfl rfl (by simp [Value.oneCell'])
    rw [show W0.setRow gx #[.int .i64 0, .int .i64 0, .slice none 0 0, .slice none 0 0, .slice none 0 0] = W0 from setRow_self W0 gx _ _ _ HQ0.out.row] at h1
    exact h1
  rw [st0]
  simp only [Result.andThen]
  go_wp2_with fail
  refine (HTT.out _).mono ?_
  rintro e _ ⟨rfl, rfl⟩
  go_wp2_with fail
  clear t1
  go_loopw [4] (fun k wr => ∃ m i : Nat, i = tt + m ∧ i ≤ n ∧ k = .int .i64 i ∧ RecSt W0 gx (cntB (fun i => !isOwn l i) tt m) (cntB (isOwn l) tt m) (.slice none 0 0) (.slice none 0 0) wr) (fun k _ => n - (intOf k).toNat)
  case atStart => exact ⟨0, tt, by omega, by omega, rfl, HQ0.out⟩
  case round =>
    clear HQ0
    obtain ⟨m, i, hi', hin, rfl, hQ⟩ := hrel
    have HQ := Lib.hid hQ
    have HI := Lib.hid hi'
    have dl := loadTab_at (HDW.out _ hQ.only) rfl
    clear hQ hi'
    by_cases hlt : i < n
    · have hltI : (i : Int) < (n : Int) := by omega
      have hO := fun W h1 h2 => HO.out i W h1 h2
      have his := HIS.out i
      have hf1 := cntB_succ (fun i => !isOwn l i) tt m
      have hu1 := cntB_succ (isOwn l) tt m
      have hfl := cntB_le (fun i => !isOwn l i) tt m
      have hul := cntB_le (isOwn l) tt m
      have hm128 : m ≤ 128 := by have := HI.out; omega
      rw [← HI.out] at hf1 hu1
      rw [his] at hf1 hu1
      generalize timesP l (i : Int) = O at hf1 hu1 hO
      have HOC := Lib.hid hO
      clear hO his
      generalize hcf : cntB (fun i => !isOwn l i) tt m = cf at *
      generalize hcu : cntB (isOwn l) tt m = cu at *
      clear hcf hcu
      go_wp2_with fail
      refine (HTR.out _).mono ?_
      rintro e w1 ⟨rfl, hb1⟩
      have HQ1 := Lib.hid (HQ.out.below hb1)
      clear hb1 dl
      have dl1 := loadTab_at (HDW.out _ HQ1.out.only) rfl
      go_wp2_with fail
      refine (HOC.out _ (HL.out.below ((HBW.out _ HQ1.out.only).mono hB)) (Nat.le_trans hB (HBW.out _ HQ1.out.only).size)).mono ?_
      rintro e w2 ⟨rfl, hb2⟩
      have hq2 := HQ1.out.below hb2
      have g0 := cell_at (i := 0) (v := .int .i64 cf) hq2.row rfl
      have g1 := cell_at (i := 1) (v := .int .i64 cu) hq2.row rfl
      have f0 := free_at hq2.row 0
      have f1 := free_at hq2.row 1
      have HQ2 := Lib.hid hq2
      clear hb2 dl1 hq2
      by_cases hz : 0 < O
      · have hzI : (0 : Int) < (O : Int) := by omega
        rw [decide_eq_true hz] at hf1 hu1
        have HN := Lib.hid hf1
        have HN2 := Lib.hid hu1
        have HS := Lib.hid (HQ2.out.set1 (cu + 1))
        clear hf1 hu1
        go_wp2_with fail
        go_roundw
        case rel => exact ⟨m + 1, i + 1, by have := HI.out; omega, by omega, by go_num, by rw [HN.out, HN2.out]; exact HS.out⟩
        case measure => simp [intOf]; omega
      · have hzI : ¬ (0 : Int) < (O : Int) := by omega
        rw [decide_eq_false hz] at hf1 hu1
        have HN := Lib.hid hf1
        have HN2 := Lib.hid hu1
        have HS := Lib.hid (HQ2.out.set0 (cf + 1))
        clear hf1 hu1
        go_wp2_with fail
        go_roundw
        case rel => exact ⟨m + 1, i + 1, by have := HI.out; omega, by omega, by go_num, by rw [HN.out, HN2.out]; exact HS.out⟩
        case measure => simp [intOf]; omega
    · have hi'' : i = n := by omega
      have hltI : ¬ (i : Int) < (n : Int) := by omega
      have HQF := Lib.hid (show RecSt W0 gx FN UN (.slice none 0 0) (.slice none 0 0) wr by
        rw [HF.out, HU.out, show n - tt = m by have := HI.out; omega]; exact HQ.out)
      clear HQ
      go_wp2_with fail
      refine (HTR.out _).mono ?_
      rintro e w1 ⟨rfl, hb1⟩
      have HQ1 := Lib.hid (HQF.out.below hb1)
      clear hb1 dl
      have dl1 := loadTab_at (HDW.out _ HQ1.out.only) rfl
      go_wp2_with fail
      refine (HRF.out _ (HL.out.below ((HBW.out _ HQ1.out.only).mono hB)) (Nat.le_trans hB (HBW.out _ HQ1.out.only).size)).mono ?_
      rintro e w9 ⟨ra, rc, rfl, hR, hb9, hfr⟩
      have hq9 := HQ1.out.below hb9
      have HQ9 := Lib.hid hq9
      have HRR := Lib.hid hR
      have hgw : gx < w1.heap.size := lt_of_block HQ1.out.row
      have HFR := Lib.hid (fun (p : Addr) (hp : ra = some p) => show p.block ≠ gx from by have := hfr p hp; omega)
      have H90 := Lib.hid (show W0.heap.size ≤ w9.heap.size from Nat.le_trans HQ1.out.only.size hb9.size)
      have HGW := Lib.hid (show gx < W0.heap.size by have := HSZ.out; have := HGX.out; omega)
      have HTP0 := Lib.hid (show TP = [] ++ tentR (RP.drop 0) from HTP.out)
      clear dl1 hq9 hR hb9 hfr hgw
      go_wp2_with fail
      go_loopw [6] (fun k wr => ∃ (j : Nat) (out : List Rn) (V2 : Value), j ≤ RP.length ∧ k = .int .i64 j ∧ TP = out ++ tentR (RP.drop j) ∧ Only [gx] w9 wr ∧ RecSt W0 gx FN UN V2 (.slice none 0 0) wr ∧ wr.ownsRow w9.heap.size 40 2 V2 out.length (refsF out)) (fun k _ => RP.length - (intOf k).toNat)
      case atStart => exact ⟨0, [], _, by omega, rfl, HTP0.out, Only.refl _ _, HQ9.out, own_nil _ _ _ _⟩
      case round =>
        clear HTP0 HQ9
        obtain ⟨j, out, V2, hj, rfl, hT, hon, hQ, ho⟩ := hrel
        have HON := Lib.hid hon
        have HQ := Lib.hid hQ
        have HOW := Lib.hid ho
        obtain ⟨oa, oc, rfl⟩ := row_slice ho
        by_cases hlt : j < RP.length
        · have hltI : (j : Int) < (RP.length : Int) := by omega
          obtain ⟨b, off, rfl, hbb, hx, hy⟩ := HRR.out.get hlt
          have hbg := HFR.out _ rfl
          have x0 := (hon.cell (p := ⟨b, off + j * 2, none⟩) hbb (by simpa using hbg)).trans hx
          have x1 := (hon.cell (p := ⟨b, off + j * 2 + 1, none⟩) hbb (by simpa using hbg)).trans hy
          rw [List.drop_eq_getElem_cons hlt, tentR] at hT
          have hol : out.length ≤ 1000 := by
            have h1 := tentR_len RP
            have h2 : out.length ≤ TP.length := by rw [hT, List.length_append]; omega
            have h3 := HTP.out
            rw [h3] at h2; omega
          clear hx hy hon hQ ho hbg
          generalize RP[j] = r at hT x0 x1
          obtain ⟨x, y⟩ := r
          simp only at hT x0 x1
          by_cases hy0 : y = 0
          · have e1 : (y != 0) = false := by simp [hy0]
            have HT := Lib.hid (show TP = out ++ tentR (RP.drop (j + 1)) by rw [hT, if_pos hy0])
            clear hT
            go_wp2_with fail
            go_roundw
            case rel => exact ⟨j + 1, out, _, by omega, by go_num, HT.out, HON.out, HQ.out, HOW.out⟩
            case measure => simp [intOf]; omega
          · have e1 : (y != 0) = true := by simp [hy0]
            have HT := Lib.hid (show TP = (out ++ [(x, y)]) ++ tentR (RP.drop (j + 1)) by rw [hT, if_neg hy0]; simp)
            have g2 := cell_at (i := 2) (v := .slice oa out.length oc) HQ.out.row rfl
            have HOL := Lib.hid hol
            have g2a : ∀ o, (wr.alloc o).cell? ⟨gx, 2, none⟩ = some (.slice oa out.length oc) := fun o => (c2_alloc ⟨g2, g2⟩ o).1
            clear hT hol
            go_wp2_with fail
            go_region_law
              ((first
                | (refine step_append_row w9.heap.size 40 i0 (.agg #[.int .i64 0, .int .i64 0]) 2 16 hi0 hz0 hz1 hz2 rfl (by decide) (by decide) rfl (.tmp 45) (.tmp 50) 25 rfl Tryz.underlying25 _ rfl out.length (refsF out) ((HOW.out.alloc _).drew) _ 1 1 rfl [.int .i64 x, .int .i64 y] rfl ?src ?one ?small ?base ?_
                   case src => exact Or.inl ⟨_, rfl, news_at (cs := #[.int .i64 x, .int .i64 y]) alloc_drew⟩
                   case one => simp [Value.oneCell']
                   case small => have := HOL.out; omega
                   case base => have := HON.out.size; simp <;> omega
                   intro v6 w6 ho6 hg6
                   obtain ⟨va, vc, rfl⟩ := row_slice ho6
                   have hqa := HQ.out.below (bel_a1 (o := .cells #[.int .i64 x, .int .i64 y] 40))
                   have hq6 := hqa.grown hg6 (fun k hk => Nat.le_trans H90.out (row_own HOW.out hk)) HGW.out
                   have hn6 : Only [gx] w9 w6 := (HON.out.step_below (bel_a1 (o := .cells #[.int .i64 x, .int .i64 y] 40))).grown hg6 (fun k hk => Or.inr (row_own HOW.out hk))
                   have c2 := cell_at (i := 2) (v := .slice oa out.length oc) hq6.row rfl
                   have f2 := free_at hq6.row 2
                   have HN6 := Lib.hid (hn6.setCell (p := ⟨gx, 2, none⟩) (by simp) (.slice va (out.length + 1) vc))
                   have HQ6 := Lib.hid (hq6.set2 (.slice va (out.length + 1) vc))
                   have HO6 := Lib.hid (own_setCell (i := 2) (show w6.ownsRow w9.heap.size 40 2 (.slice va (out.length + 1) vc) (out ++ [(x, y)]).length (refsF (out ++ [(x, y)])) by rw [List.length_append, refsF_append]; exact ho6) (Nat.lt_of_lt_of_le HGW.out H90.out) (.slice va (out.length + 1) vc))
                   clear ho6 hg6 hqa hq6 hn6)))
            all_goals
              go_wp2_with fail
              go_roundw
              case rel => exact ⟨j + 1, out ++ [(x, y)], _, by omega, by go_num, HT.out, HN6.out, HQ6.out, HO6.out⟩
              case measure => simp [intOf]; omega
        · have hltI : ¬ (j : Int) < (RP.length : Int) := by omega
          have HT := Lib.hid (show TP = out by rw [hT, List.drop_eq_nil_of_le (by omega)]; simp [tentR])
          clear hT hon hQ ho
          have HOT := Lib.hid (show wr.ownsRow W0.heap.size 40 2 (.slice oa out.length oc) TP.length (refsF TP) by rw [HT.out]; exact own_mono HOW.out H90.out)
          have hrc : RecSt wr gx FN UN (.slice oa out.length oc) (.slice none 0 0) wr := ⟨Only.refl _ _, HQ.out.row⟩
          have HRC := Lib.hid hrc
          have HGLT := Lib.hid (lt_of_block hrc.row)
          have HON3 := Lib.hid HQ.out.only
          have HSP0 := Lib.hid HSP.out
          have HSZW := Lib.hid (show W0.heap.size ≤ wr.heap.size from HQ.out.only.size)
          clear hrc HTR HTT HRF HIS HF HU HD0 HQ HON HRR HFR HOW
          go_wp2_with fail
          obtain ⟨wo5, hwo5⟩ : ∃ wo5, wo5 = wr := ⟨wr, rfl⟩
          rw [← hwo5] at HOT HRC HGLT HON3 HSZW ⊢
          clear hwo5
          go_loopw [7] (fun k wr => ∃ (i : Nat) (V3 : Value), i ≤ 128 ∧ k = .int .i64 i ∧ RecSt wo5 gx FN UN (.slice oa out.length oc) V3 wr ∧ wr.ownsRow wo5.heap.size 3 1 V3 (sharedS (allT l) i).length ((sharedS (allT l) i).map iv)) (fun k _ => 128 - (intOf k).toNat)
          case atStart => exact ⟨0, _, by omega, rfl, HRC.out, own_nil _ _ _ _⟩
          case round =>
            clear HRC
            obtain ⟨i, V3, hi, rfl, hQ, ho⟩ := hrel
            have HQ6 := Lib.hid hQ
            have HO6 := Lib.hid ho
            obtain ⟨oa3, oc3, rfl⟩ := row_slice ho
            have hsl := sharedS_len (allT l) i
            have hss := sharedS_succ (allT l) i
            have hall : Only [gx] W0 wr := HON3.out.trans hQ.only
            have dl := loadTab_at (HDW.out _ hall) rfl
            have HAL := Lib.hid hall
            clear hQ ho hall
            by_cases hlt6 : i < 128
            · have hltI6 : (i : Int) < 128 := by omega
              have hO := fun W h1 h2 => HO.out i W h1 h2
              rw [← HCN.out i] at hss
              generalize timesP l (i : Int) = cnt at hO hss
              have HOC := Lib.hid hO
              have HSS := Lib.hid hss
              clear hO hss
              go_wp2_with fail
              refine (HOC.out _ (HL.out.below ((HBW.out _ HAL.out).mono hB)) (Nat.le_trans hB (HBW.out _ HAL.out).size)).mono ?_
              rintro e w2 ⟨rfl, hb2⟩
              have HQ2 := Lib.hid (HQ6.out.below hb2)
              have HO2 := Lib.hid (own_below HO6.out hb2)
              clear hb2 dl
              by_cases hc1 : 1 < cnt
              · have hcI : (1 : Int) < (cnt : Int) := by omega
                have g3 := cell_at (i := 3) (v := .slice oa3 (sharedS (allT l) i).length oc3) HQ2.out.row rfl
                have hlow := HO2.out
                have HS6 := Lib.hid (show sharedS (allT l) (i + 1) = sharedS (allT l) i ++ [i] by rw [HSS.out, if_pos hc1])
                go_wp2_with (refine wpList_append_own _ rfl _ _ 26 rfl wo5.heap.size 3 j0 (.int .i64 0) 1 8 Tryz.underlying26 kj0 kz0 kz1 kz2 rfl (by decide) _ _ _ rfl (hlow.alloc _) _ 1 1 [.int .i64 i] rfl rfl ?d1 ?d2 ?d3 ?d4 ?d5 ?_)
                try (case d1 => exact news_at (cs := #[.int .i64 i]) (heap_alloc_new _ _))
                try (case d2 => simp [Value.oneCell'])
                try (case d3 => unfold maxLen; omega)
                try (case d4 => omega)
                try (case d5 => have := HQ2.out.only.size; simp; omega)
                intro v6 w6 ho6 hg6 _
                obtain ⟨va, vc, rfl⟩ := row_slice ho6
                have hq6 := (HQ2.out.below (box_below w2 #[.int .i64 i] 3)).grown hg6 (fun k hk => row_own hlow hk) HGLT.out
                have c3 := cell_at (i := 3) (v := .slice oa3 (sharedS (allT l) i).length oc3) hq6.row rfl
                have f3 := free_at hq6.row 3
                have HQ7 := Lib.hid (hq6.set3 (.slice va ((sharedS (allT l) i).length + 1) vc))
                have HO7 := Lib.hid (own_setCell (i := 3) (show w6.ownsRow wo5.heap.size 3 1 (.slice va ((sharedS (allT l) i).length + 1) vc) (sharedS (allT l) (i + 1)).length ((sharedS (allT l) (i + 1)).map iv) by rw [HS6.out, List.length_append, List.map_append]; exact ho6) HGLT.out (.slice va ((sharedS (allT l) i).length + 1) vc))
                clear ho6 hg6 hlow g3 hq6
                go_wp2_with fail
                go_roundw
                case rel => exact ⟨i + 1, _, by omega, by go_num, HQ7.out, HO7.out⟩
                case measure => simp [intOf]; omega
              · have hcI : ¬ (1 : Int) < (cnt : Int) := by omega
                have HS6 := Lib.hid (show sharedS (allT l) (i + 1) = sharedS (allT l) i by rw [HSS.out, if_neg hc1, List.append_nil])
                go_wp2_with fail
                go_roundw
                case rel => exact ⟨i + 1, _, by omega, by go_num, HQ2.out, by rw [HS6.out]; exact HO2.out⟩
                case measure => simp [intOf]; omega
            · obtain rfl : i = 128 := by omega
              have HFIN := Lib.hid (show wr.ownsRow wo5.heap.size 3 1 (.slice oa3 (sharedS (allT l) 128).length oc3) SP.length (SP.map iv) by rw [HSP0.out]; exact HO6.out)
              have hres := HAL.out.heap HRES.out (by simp; have := HGX.out; omega)
              have dlx := loadSc_at HQ6.out.row rfl
              have stx := storeSc_at (cs := scV FN UN (.slice oa out.length oc) (.slice oa3 (sharedS (allT l) 128).length oc3)) hres rfl rfl (by simp [Value.oneCell'])
              have HGF := Lib.hid (setRow_heap _ _ _ (scV FN UN (.slice oa out.length oc) (.slice oa3 (sharedS (allT l) 128).length oc3)) _ _ hres)
              have hsr : Only [w.heap.size + 1] wr (wr.setRow (w.heap.size + 1) (scV FN UN (.slice oa out.length oc) (.slice oa3 (sharedS (allT l) 128).length oc3))) := (Only.refl _ _).setRow (by simp) _
              have hov := own_only HOT.out HQ6.out.only (fun k hk => by have := row_own HOT.out hk; have := HGW.out; simp; omega)
              have HV2 := Lib.hid (own_mono (own_only hov hsr (fun k hk => by have := row_own hov hk; have := HSZ.out; simp; omega)) (show w.heap.size ≤ W0.heap.size from HB0.out.size))
              have HV3 := Lib.hid (own_mono (own_only HFIN.out hsr (fun k hk => by have := row_own HFIN.out hk; have := HSZ.out; have := HSZW.out; simp; omega)) (show w.heap.size ≤ wo5.heap.size from Nat.le_trans HB0.out.size HSZW.out))
              have HBF := Lib.hid (Below.setRow (HBW.out _ HAL.out) (show w.heap.size ≤ w.heap.size + 1 by omega) (scV FN UN (.slice oa out.length oc) (.slice oa3 (sharedS (allT l) 128).length oc3)))
              have hltI6 : ¬ ((128 : Nat) : Int) < 128 := by omega
              clear hres hsr hov hss
              go_wp2_with fail
              refine ret_sc (cs := scV FN UN (.slice oa out.length oc) (.slice oa3 (sharedS (allT l) 128).length oc3)) rfl rfl rfl rfl HGF.out ?_
              exact ⟨_, _, rfl, HV2.out, HV3.out, HBF.out⟩

end Go.Proofs.YtcidbmldbikknaaGreatDoor

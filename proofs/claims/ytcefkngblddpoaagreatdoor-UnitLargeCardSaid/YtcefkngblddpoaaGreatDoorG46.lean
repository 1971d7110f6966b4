/-
  Walk: a put into a keyed data set (record). Condition: unit, manager and contents lie in memory, nobody waits for a lock, texts are not too long.
  Plain: the example of the chapter, computed. No walk.
  Two units over one base and one manager; the example's puts. Condition: they lie in memory, apart.
-/
import Derived.Test.YtcefkngblddpoaaGreatDoorG45
namespace Go.Proofs.YtcefkngblddpoaaGreatDoor

section
set_option maxRecDepth 100000
set_option maxHeartbeats 16000000
set_option linter.unusedSimpArgs false
set_option linter.unusedVariables false
open Go.RowKit Go.Sort
/-- What stands behind the base's answer: the description in a cell, the alternate indexes. -/
structure RSz (w V : World) (D : Nat) (x : Co) (pa : Option Addr) (alts : List Co) : Prop where
 bel : Below w.heap.size w V
 d : V.heap[D]? = some (.cells (dsE x) 45 (0, 0))
 ne : w.heap.size ≤ D
 al : DsL V pa alts
 new : ∀ q, pa = some q → alts ≠ [] → w.heap.size ≤ q.block
/-- The locks of a plan, asked for one after the other. -/
structure LkSz (w : World) (S M : List Nat) (p m : Nat) (bv : Value) (u : Un) (L : Ls) (l : List Ch) (j : Nat) (Lj : Ls) (Mj : List Nat) (W : World) : Prop where
 le : j ≤ l.length
 eq : locksU u L l = locksU u Lj (l.drop j)
 um : UM W S Mj p m bv u Lj
 mv : Mv M w Mj W
 q : Lj.queue = []
 h : Lj.held.length ≤ L.held.length + j
/-- Without alternate indexes a plan is the change alone. -/
theorem planU_one {C : Int → List Pr} {u : Un} {L : Ls} {x : Co} {alts : List Co} {c : Ch} (hz : alts = []) (he : (planU C u L x alts c).1.2 = 0) : (planU C u L x alts c).1.1.length = 1 := by
 subst hz
 unfold planU at he ⊢
 by_cases h1 : sphP x [] = false ∨ chgA x c = false
 · rw [if_pos h1] at he; exact absurd he (by simp)
 · rw [if_neg h1] at he ⊢
   by_cases h2 : c.kind = 3
   · rw [if_pos h2]; rfl
   · rw [if_neg h2] at he ⊢
     by_cases h3 : (oldU C u L x c).1.2 ≠ 0 ∧ ((oldU C u L x c).1.2 ≠ 6 ∨ c.kind = 1)
     · rw [if_pos h3] at he; exact absurd he h3.1
     · rw [if_neg h3]; rfl
section
attribute [local go_sem ↓] loadCh_down storeCh_down loadRg_down storeRg_down loadDs_down storeDs_down
theorem urec_kz (w : World) (S M : List Nat) (p m q : Nat) (cs : List Co) (u : Un) (L : Ls) (c : Ch) (x : Co) (alts : List Co) (h : UM w S M p m (Bs.sets q cs).val u L) (hb : BsAt w M (.sets q cs)) (hbS : BsAt w S (.sets q cs)) (hset : setOf c.id cs = some x) (hal : alts = altsP c.id cs) (han : alts.length ≤ 100) (horg : x.org = 3) (hkind : c.kind = 0) (hbase : x.z.base = 0) (hz : alts = [])
 (hc : ChLen c) (hi : I64 c.id) (hu : ∀ d ∈ u.chs, ChLen d) (hln : ∀ id, (ownOf u id).lens.length ≤ 900000) (hv : kvalP x.z x.org x.fmt x.len x.blk = true) (hrd : ∀ a ∈ alts, RdOk (.sets q cs) a.z.id) (hxi : x.z.id = c.id)
 (hol : ∀ L' k, (getU (Bs.sets q cs).pairs u L' c.id k).1.1.length ≤ 100000) (hq : L.queue = []) (hf : L.held.length ≤ 500000)
 (hpl : ∀ (L' : Ls) (c' : Ch), ChLen c' → ∀ d ∈ (planU (Bs.sets q cs).pairs u L' x alts c').1.1, ChLen d ∧ I64 d.id) (hpn : ∀ (L' : Ls) (c' : Ch), (planU (Bs.sets q cs).pairs u L' x alts c').1.1.length ≤ 300) :
 Calls Tryz.prog 88 #[.pointer (some ⟨p, 0, none⟩), .agg c.cs] w fun e w' => DoE (recX (Bs.sets q cs).pairs u L x alts c (fun d => (d.key, pointR d.key, 0))) S M p m (Bs.sets q cs).val w e w' := by
 obtain ⟨R, hR⟩ : ∃ R, R = recX (Bs.sets q cs).pairs u L x alts c (fun d => (d.key, pointR d.key, 0)) := ⟨_, rfl⟩
 rw [← hR]
 unfold recX at hR
 have HU := Lib.hid h
 have HBS := Lib.hid hb
 have HBSS := Lib.hid hbS
 have HRR := Lib.hid hR
 have HCL := Lib.hid hc
 have HCI := Lib.hid hi
 have HUC := Lib.hid hu
 have HLN := Lib.hid hln
 have HV := Lib.hid hv
 have HRD := Lib.hid hrd
 have HXI := Lib.hid hxi
 have HOL := Lib.hid hol
 have HQ := Lib.hid hq
 have HF := Lib.hid hf
 have HPL := Lib.hid hpl
 have HPN := Lib.hid hpn
 have HAN := Lib.hid han
 have HZA := Lib.hid hz
 have HORG := Lib.hid horg
 have HKD := Lib.hid hkind
 have HZB := Lib.hid hbase
 have HNM := Lib.hid (show ∀ y, w.heap.size ≤ y → y ∉ M ∧ y ∉ S from fun y hy => ⟨fun hm => by have := h.mg.lt y hm; omega, fun hs => by have := h.un.lt y hs; omega⟩)
 obtain ⟨w0, hw0⟩ : ∃ w0, w0 = w.alloc (.cells c.cs 36) := ⟨_, rfl⟩
 have hx : w0.heap[w.heap.size]? = some (.cells c.cs 36 (0, 0)) := by rw [hw0]; exact heap_alloc_new w _
 have hb0 : Below w.heap.size w w0 := by rw [hw0]; exact box_below0 _ _ _
 have HW := Lib.hid hw0
 have HX := Lib.hid hx
 have HB0 := Lib.hid hb0
 have HS0 := Lib.hid (show w0.heap.size = w.heap.size + 1 by rw [hw0]; exact World.size_alloc _ _)
 have hf1 : w0.cell? ⟨p, 1, none⟩ = some (Bs.sets q cs).val := by
  obtain ⟨k, rfl, hbv, _, _, hk0⟩ := (h.un.below hb0)
  exact cell_at (i := 1) hk0.row (by rw [← hbv]; rfl)
 have hf2 := cell_at (i := 1) (v := .int .i64 c.id) hx rfl
 have HFC := Lib.hid (fun (V : World) (hb : Below w0.heap.size w0 V) => And.intro ((hb.cell (p := ⟨p, 1, none⟩) (block_lt_of_cell hf1)).trans hf1) ((hb.cell (p := ⟨w.heap.size, 1, none⟩) (block_lt_of_cell hf2)).trans hf2))
 have HSET := Lib.hid (fun (V : World) (hbV : Below w0.heap.size w0 V) => show Calls Tryz.prog 18 #[.pointer (some ⟨q, 0, none⟩), .int .i64 c.id] V fun e w' => (∃ pa cap, e = .returned (.tuple #[.agg (dsE x), .slice pa alts.length cap, .int .i64 0]) ∧ DsL w' pa alts ∧ (∀ q, pa = some q → alts ≠ [] → V.heap.size ≤ q.block)) ∧ Below V.heap.size V w' from
  (bset_w V M q cs c.id (hb.below (hb0.trans (hbV.mono hb0.size)))).mono (fun e w' hq' => by
    obtain ⟨h1, h2⟩ := hq'
    unfold SetR at h1
    rw [hset] at h1
    obtain ⟨v, he, hrow⟩ := h1
    rw [← hal] at hrow
    obtain ⟨a, cap, hv', _, _, hdl, hnw⟩ := DsL.of_row hrow
    refine ⟨⟨a, cap, by rw [he, hv'], hdl, fun q0 e0 hne => ?_⟩, h2⟩
    obtain ⟨g, hg, hge, _⟩ := hnw hne
    rw [hg] at e0; injection e0 with e0; rw [← e0]; exact hge))
 clear h hb hbS hset hal han horg hkind hbase hz hc hi hu hln hv hrd hxi hol hq hf hpl hpn hR hw0 hx hb0 hf1 hf2
 go_enter Tryz.func88, Tryz.ntmps88
 go_upto_region 1 with fail
 rw [← HW.out]
 refine wp_region_held_drew (S := fun V => V.cell? ⟨p, 1, none⟩ = some (.iface 26 (.pointer (some ⟨q, 0, none⟩))) ∧ V.cell? ⟨w.heap.size, 1, none⟩ = some (.int .i64 c.id)) (by kernel_rfl) (HFC.out w0 (Below.refl _ _)) (fun hHeld => ?_)
 refine tk 0 (.pointer (some ⟨p, 0, none⟩)) 22 ?_
 refine tk 1 (.pointer (some ⟨p, 0, none⟩)) 23 ?_
 refine tk 2 (.pointer (some ⟨p, 1, none⟩)) 24 ?_
 refine tk 3 (.iface 26 (.pointer (some ⟨q, 0, none⟩))) 25 ?_
 refine tk 4 (.pointer (some ⟨w.heap.size, 1, none⟩)) 26 ?_
 refine tk 5 (.int .i64 c.id) 27 ?_
 have hB0 : Below w0.heap.size w0 w0.drew := (Below.refl _ w0).drew
 generalize w0.drew = V0 at hB0 ⊢
 have HB00 := Lib.hid hB0
 clear hB0
 refine (fun (key0 : ∀ V D pa cap, Hid (RSz w0 V D x pa alts) → (?G4 : World → Nat → Option Addr → Nat → Prop) V D pa cap) => ?main4) ?key4
 case main4 =>
  have key := Lib.hid key0
  clear key0
  refine rd2 6 11 (fun K hK => ?_) (fun K hK => ?_)
  · skip
    go_simp
    go_upon
    refine (HSET.out V0 HB00.out).mono ?_
    rintro e V1 ⟨⟨pa, cap, rfl, hdl, hnw⟩, hbq⟩
    have HBV1 := Lib.hid ((HB00.out).trans (hbq.mono (HB00.out).size))
    have HDL := Lib.hid hdl
    have HNW := Lib.hid hnw
    clear hdl hnw hbq
    refine hK.out _ _ (HFC.out V1 HBV1.out) (fun hHeld => ?_)
    clear hK K
    try simp only [lay]
    refine tk 7 (.tuple #[.agg (dsE x), .slice pa alts.length cap, .int .i64 0]) 21 ?_
    refine tk 8 (.agg (dsE x)) 29 ?_
    refine tk 9 (.slice pa alts.length cap) 30 ?_
    refine tk 10 (.int .i64 0) 31 ?_
    obtain ⟨V2, hV2⟩ : ∃ X, X = V1.alloc (.cells dsZ 45) := ⟨_, rfl⟩
    obtain ⟨D, hD⟩ : ∃ D, D = V1.heap.size := ⟨_, rfl⟩
    have hbq : Below V1.heap.size V1 V2 := by rw [hV2]; exact box_below0 V1 _ _
    have HG := Lib.hid (show V2.heap[D]? = some (.cells dsZ 45 (0, 0)) by rw [hV2, hD]; exact heap_alloc_new V1 _)
    have HBV2 := Lib.hid ((HBV1.out).trans (hbq.mono (HBV1.out).size))
    have HEV2 := Lib.hid hV2
    have HDE := Lib.hid hD
    have HDG := Lib.hid (show w0.heap.size ≤ D by rw [hD]; exact (HBV1.out).size)
    clear hV2 hD
    refine rd1 11 fun K hK => ?_
    have HDD := Lib.hid (show ∀ q0, pa = some q0 → alts ≠ [] → q0.block ∉ [D] from fun q0 e0 hne hm => by
     rw [List.mem_singleton] at hm
     obtain ⟨b', off, e', _⟩ := HDL.out hne
     have := HDL.out.lt e' hne
     rw [e0] at e'; injection e' with e'
     have hDe := HDE.out
     rw [e'] at hm; simp only at hm; omega)
    have HNEW := Lib.hid (show ∀ q0, pa = some q0 → alts ≠ [] → w0.heap.size ≤ q0.block from fun q0 e0 hne => Nat.le_trans HB00.out.size (HNW.out q0 e0 hne))
    replace HDL := Lib.hid (HDL.out.below hbq)
    clear hbq
    go_simp
    rw [← HEV2.out, ← HDE.out]
    refine hK.out _ _ (HFC.out V2 HBV2.out) (fun hHeld => ?_)
    clear hK K
    try simp only [lay]
    have hst := storeDs_at (z := x.z) (org := x.org) (fmt := x.fmt) (len := x.len) (blk := x.blk) HG.out rfl
    have hz3 := setRow_heap _ _ _ (dsE x) _ _ HG.out
    have hb3 := below_setRow (g := D) HBV2.out HDG.out (dsE x)
    obtain ⟨V3, hV3⟩ : ∃ X, X = V2.setRow D (dsE x) := ⟨_, rfl⟩
    have ho3 : Only [D] V2 V3 := by rw [hV3]; exact (Only.refl _ _).setRow (Or.inl (by simp)) _
    rw [← hV3] at hst hz3 hb3
    have HST := Lib.hid (show RSz w0 V3 D x pa alts from ⟨hb3, hz3, HDG.out, HDL.out.only ho3 HDD.out, HNEW.out⟩)
    have HB3 := Lib.hid hb3
    clear hz3 hb3 hV3 ho3
    refine rd1 12 fun K hK => ?_
    go_simp
    refine hK.out _ _ (HFC.out V3 HB3.out) (fun hHeld => ?_)
    clear hK K
    try simp only [lay]
    refine tk 13 (.slice pa alts.length cap) 7 ?_
    refine tk 14 (.int .i64 0) 8 ?_
    clear hst
    exact key.out V3 D pa cap HST
  · skip
    obtain ⟨V1, hV1⟩ : ∃ X, X = V0.alloc (.cells dsZ 45) := ⟨_, rfl⟩
    obtain ⟨D, hD⟩ : ∃ D, D = V0.heap.size := ⟨_, rfl⟩
    have hbq : Below V0.heap.size V0 V1 := by rw [hV1]; exact box_below0 V0 _ _
    have HG := Lib.hid (show V1.heap[D]? = some (.cells dsZ 45 (0, 0)) by rw [hV1, hD]; exact heap_alloc_new V0 _)
    have HBV1 := Lib.hid ((HB00.out).trans (hbq.mono (HB00.out).size))
    have HEV1 := Lib.hid hV1
    have HDE := Lib.hid hD
    have HDG := Lib.hid (show w0.heap.size ≤ D by rw [hD]; exact (HB00.out).size)
    clear hV1 hD
    clear hbq
    go_simp
    rw [← HEV1.out, ← HDE.out]
    refine hK.out _ _ (HFC.out V1 HBV1.out) (fun hHeld => ?_)
    clear hK K
    try simp only [lay]
    refine rd1 6 fun K hK => ?_
    go_simp
    go_upon
    refine (HSET.out V1 HBV1.out).mono ?_
    rintro e V2 ⟨⟨pa, cap, rfl, hdl, hnw⟩, hbq⟩
    have HBV2 := Lib.hid ((HBV1.out).trans (hbq.mono (HBV1.out).size))
    have HDL := Lib.hid hdl
    have HNW := Lib.hid hnw
    have HG2 := Lib.hid (heap_below hbq (lt_of_block HG.out) HG.out)
    have HDD := Lib.hid (show ∀ q0, pa = some q0 → alts ≠ [] → q0.block ∉ [D] from fun q0 e0 hne hm => by
     rw [List.mem_singleton] at hm
     have h1 := HNW.out q0 e0 hne
     have h2 := lt_of_block HG.out
     omega)
    have HNEW := Lib.hid (show ∀ q0, pa = some q0 → alts ≠ [] → w0.heap.size ≤ q0.block from fun q0 e0 hne => Nat.le_trans HBV1.out.size (HNW.out q0 e0 hne))
    clear hdl hnw hbq
    refine hK.out _ _ (HFC.out V2 HBV2.out) (fun hHeld => ?_)
    clear hK K
    try simp only [lay]
    refine tk 7 (.tuple #[.agg (dsE x), .slice pa alts.length cap, .int .i64 0]) 21 ?_
    refine tk 8 (.agg (dsE x)) 29 ?_
    refine tk 9 (.slice pa alts.length cap) 30 ?_
    refine tk 10 (.int .i64 0) 31 ?_
    have hst := storeDs_at (z := x.z) (org := x.org) (fmt := x.fmt) (len := x.len) (blk := x.blk) HG2.out rfl
    have hz3 := setRow_heap _ _ _ (dsE x) _ _ HG2.out
    have hb3 := below_setRow (g := D) HBV2.out HDG.out (dsE x)
    obtain ⟨V3, hV3⟩ : ∃ X, X = V2.setRow D (dsE x) := ⟨_, rfl⟩
    have ho3 : Only [D] V2 V3 := by rw [hV3]; exact (Only.refl _ _).setRow (Or.inl (by simp)) _
    rw [← hV3] at hst hz3 hb3
    have HST := Lib.hid (show RSz w0 V3 D x pa alts from ⟨hb3, hz3, HDG.out, HDL.out.only ho3 HDD.out, HNEW.out⟩)
    have HB3 := Lib.hid hb3
    clear hz3 hb3 hV3 ho3
    refine rd1 12 fun K hK => ?_
    go_simp
    refine hK.out _ _ (HFC.out V3 HB3.out) (fun hHeld => ?_)
    clear hK K
    try simp only [lay]
    refine tk 13 (.slice pa alts.length cap) 7 ?_
    refine tk 14 (.int .i64 0) 8 ?_
    clear hst
    exact key.out V3 D pa cap HST
 case key4 =>
  intro V3 D pa cap HST
  refine wpAnyH_done (by kernel_rfl) ?_ _
  clear HB00 V0
  have HB3 := Lib.hid (HB0.out.trans (HST.out.bel.mono HB0.out.size))
  have HX3 := Lib.hid (heap_below HST.out.bel (lt_of_block HX.out) HX.out)
  have k0 := cell_at (i := 0) (v := .int .i64 0) HX3.out (by rw [← HKD.out]; rfl)
  have d1 := cell_at (i := 1) (v := .int .i64 3) HST.out.d (by rw [← HORG.out]; rfl)
  have d11 := cell_at (i := 11) (v := .int .i64 0) HST.out.d (by rw [← HZB.out]; rfl)
  have ldD := loadDs_at HST.out.d rfl
  have HCP := Lib.hid (compl_w V3 x c w.heap.size HX3.out HV.out HCL.out)
  have HC1L := Lib.hid (complU_len HCL.out HV.out)
  have HSM := Lib.hid (complU_same x c)
  have HLNP := Lib.hid (show ∀ y, y = w.heap.size → y ∉ [D] from fun y hy hm => by rw [List.mem_singleton] at hm; have := HST.out.ne; have := HS0.out; omega)
  obtain ⟨P, hP⟩ : ∃ P, P = complU x c := ⟨_, rfl⟩
  rw [← hP] at HCP HC1L HSM HRR
  obtain ⟨e1, c1⟩ := P
  simp only at HCP HC1L HSM HRR
  clear hP
  go_wp2_with fail
  refine HCP.out.mono ?_
  rintro e V4 ⟨rfl, hx4, ho4⟩
  have HX4 := Lib.hid hx4
  have HD4 := Lib.hid (ho4.heap HST.out.d (by rw [List.mem_singleton]; have := HST.out.ne; have := HS0.out; omega))
  have HDL4 := Lib.hid (HST.out.al.only ho4 (fun q0 e0 hne hm => by rw [List.mem_singleton] at hm; have := HST.out.new q0 e0 hne; have := HS0.out; omega))
  have HB4 := Lib.hid (HB3.out.trans (ho4.below HB3.out.size (fun k hk => by rw [List.mem_singleton] at hk; omega)))
  have HDN := Lib.hid (show w.heap.size ≤ D by have := HST.out.ne; have := HS0.out; omega)
  have HPN0 := Lib.hid (show ∀ q0, pa = some q0 → alts ≠ [] → w.heap.size ≤ q0.block from fun q0 e0 hne => by have := HST.out.new q0 e0 hne; have := HS0.out; omega)
  clear hx4 ho4 k0 d1 d11 ldD
  by_cases he1 : e1 = 0
  · subst he1
    have hRA := HRR.out
    rw [if_neg (by simp)] at hRA
    have HRA := Lib.hid hRA
    have ldX4 := loadCh_at HX4.out rfl
    have HVL := Lib.hid (show Calls Tryz.prog 140 #[.agg c1.cs] V4 fun e w' => e = .returned (.bool (chV c1)) ∧ Below V4.heap.size V4 w' from cvalid_any c1.kind c1.id c1.key c1.dat c1.vol V4 HC1L.out.k64 (by have := HC1L.out.len; omega) (by have := HC1L.out.len; omega) (by have := HC1L.out.len; omega))
    clear hRA HRR
    cases hv : chV c1 with
    | false =>
      rw [hv] at HVL
      have HRE := Lib.hid (show R = (([], 1), (u, L)) by rw [HRA.out, if_pos hv])
      clear hv
      go_wp2_with fail
      refine HVL.out.mono ?_
      rintro e V5 ⟨rfl, hb5⟩
      have HB5 := Lib.hid (HB4.out.trans (hb5.mono HB4.out.size))
      clear hb5 ldX4
      go_wp2_with fail
      go_ret2
      exact ⟨by rw [HRE.out]; rfl, S, M, by rw [HRE.out]; exact HU.out.below HB5.out, Mv.of_below HB5.out⟩
    | true =>
      rw [hv] at HVL
      have hRB := HRA.out
      rw [if_neg (by rw [hv]; simp)] at hRB
      have HRB := Lib.hid (show R = recT (Bs.sets q cs).pairs u L x alts c1 c1.key (pointR c1.key) from hRB.trans (if_neg (by simp)))
      clear hv hRB HRA
      go_wp2_with fail
      refine HVL.out.mono ?_
      rintro e V5 ⟨rfl, hb5⟩
      have HB5 := Lib.hid (HB4.out.trans (hb5.mono HB4.out.size))
      have HX5 := Lib.hid (heap_below hb5 (lt_of_block HX4.out) HX4.out)
      have HD5 := Lib.hid (heap_below hb5 (lt_of_block HD4.out) HD4.out)
      have HDL5 := Lib.hid (HDL4.out.below hb5)
      have ldX5 := loadCh_at HX5.out rfl
      have HTG := Lib.hid (target_pt V5 p c1 (by rw [HSM.out.1, HKD.out]; decide) (by rw [HSM.out.1, HKD.out]; decide))
      clear hb5 ldX4
      go_wp2_with fail
      refine HTG.out.mono ?_
      rintro e V6 ⟨rfl, hb6⟩
      have HB6 := Lib.hid (HB5.out.trans (hb6.mono HB5.out.size))
      have HX6 := Lib.hid (heap_below hb6 (lt_of_block HX5.out) HX5.out)
      have HD6 := Lib.hid (heap_below hb6 (lt_of_block HD5.out) HD5.out)
      have HDL6 := Lib.hid (HDL5.out.below hb6)
      clear hb6 ldX5
      obtain ⟨V7, hst7, hz7, hb7⟩ := put_rg V6 (pointR c1.key)
      have HB7 := Lib.hid (HB6.out.trans (hb7.mono HB6.out.size))
      have HX7 := Lib.hid (heap_below hb7 (lt_of_block HX6.out) HX6.out)
      have HD7 := Lib.hid (heap_below hb7 (lt_of_block HD6.out) HD6.out)
      have HDL7 := Lib.hid (HDL6.out.below hb7)
      have id7 := cell_at (i := 1) (v := .int .i64 c.id) HX7.out (by rw [← HSM.out.2.1]; rfl)
      have ldR := loadRg_at hz7 rfl
      have HL := Lib.hid (ulock_w V7 S p (Bs.sets q cs).val M m L u c.id (pointR c1.key) true (HU.out.un.below HB7.out) (HU.out.mg.below HB7.out) (by rw [HQ.out]; simp) (Or.inl HQ.out) ⟨by have := HF.out; omega, by rw [HQ.out]; simp⟩)
      have hRC := HRB.out
      unfold recT at hRC
      have HLF := Lib.hid (fun he => lock_free (u := u) (id := c1.id) (r := pointR c1.key) (x := true) HQ.out he)
      rw [← HSM.out.2.1] at HL
      obtain ⟨Y, hY⟩ : ∃ Y, Y = lockU u L c1.id (pointR c1.key) true := ⟨_, rfl⟩
      rw [← hY] at HL HLF hRC
      obtain ⟨z1, L1⟩ := Y
      simp only at HL HLF hRC
      have HRC := Lib.hid hRC
      rw [HSM.out.2.1] at HL
      clear hb7 hz7 hY hRC HRB
      go_wp2_with fail
      refine HL.out.mono ?_
      rintro e V8 ⟨rfl, M8, hm8, hv8⟩
      have HU8 := Lib.hid ((HU.out.below HB7.out).mg' hm8 hv8)
      have HV8 := Lib.hid ((Mv.of_below (S := M) HB7.out).trans hv8)
      have HX8 := Lib.hid (hv8.only.heap HX7.out (HNM.out _ (Nat.le_refl _)).1)
      have HD8 := Lib.hid (hv8.only.heap HD7.out (HNM.out _ HDN.out).1)
      have HDL8 := Lib.hid (HDL7.out.only hv8.only (fun q0 e0 hne hm => (HNM.out _ (HPN0.out q0 e0 hne)).1 hm))
      have HBS8 := Lib.hid ((HBS.out.below HB7.out).mv hv8)
      have HND := Lib.hid (show D ∉ M8 from hv8.apart (T := [D]) (fun y hy => by rw [List.mem_singleton] at hy; subst hy; exact ⟨(HNM.out _ HDN.out).1, lt_of_block HD7.out⟩) D (by simp))
      have HPM8 := Lib.hid (show ∀ q0, pa = some q0 → alts ≠ [] → q0.block ∉ M8 from fun q0 e0 hne hm => by
       obtain ⟨b', off, e', _⟩ := HDL7.out hne
       have hl := HDL7.out.lt e' hne
       rw [e0] at e'; injection e' with e'
       rcases hv8.new _ hm with q1 | ⟨q1, _⟩
       · exact (HNM.out _ (HPN0.out q0 e0 hne)).1 q1
       · rw [e'] at q1; simp only at q1; omega)
      clear hm8 hv8 hst7 id7 ldR
      by_cases hz1 : z1 = 0
      · subst hz1
        have hRD := HRC.out
        rw [if_neg (by simp)] at hRD
        have HRD1 := Lib.hid hRD
        have HLF1 := Lib.hid (HLF.out (by decide))
        clear hRD HRC
        have ldX8 := loadCh_at HX8.out rfl
        obtain ⟨W9, hW9⟩ : ∃ W9, W9 = V8.alloc (.cells c1.cs 36) := ⟨_, rfl⟩
        have hb9 : Below V8.heap.size V8 W9 := by rw [hW9]; exact box_below0 V8 c1.cs 36
        have HX9 := Lib.hid (heap_below hb9 (lt_of_block HX8.out) HX8.out)
        have HD9 := Lib.hid (heap_below hb9 (lt_of_block HD8.out) HD8.out)
        have d19 := cell_at (i := 1) (v := .int .i64 3) HD9.out (by rw [← HORG.out]; rfl)
        have HB9 := Lib.hid hb9
        have HW9 := Lib.hid hW9
        clear hb9 hW9
        go_upto_region 19 with fail
        rw [← HW9.out]
        clear ldX8
        obtain ⟨VA, hstA, hzA, hbA⟩ := put_ch W9 c1
        have hB8A : Below V8.heap.size V8 VA := HB9.out.trans (hbA.mono HB9.out.size)
        have ldX9 := loadCh_at (heap_below (box_below0 W9 chZ 36) (lt_of_block HX9.out) HX9.out) rfl
        have ldX99 := loadCh_at HX9.out rfl
        have k0A := cell_at (i := 0) (v := .int .i64 0) (heap_below hbA (lt_of_block HX9.out) HX9.out) (by rw [← HKD.out, ← HSM.out.1]; rfl)
        have ldDA := loadDs_at (heap_below hbA (lt_of_block HD9.out) HD9.out) rfl
        have ldxA := loadCh_at hzA rfl
        have HB8A := Lib.hid hB8A
        have HUA := Lib.hid (HU8.out.below hB8A)
        have HQ1 := Lib.hid HLF1.out.1
        have HF1 := Lib.hid (show L1.held.length ≤ 500001 by have := HLF1.out.2; have := HF.out; omega)
        have hpln : pln (Bs.sets q cs).pairs u L1 x alts c1 c1.key = planU (Bs.sets q cs).pairs u L1 x alts c1 := by
         unfold pln
         rw [if_neg (by rw [HORG.out]; decide), if_neg (by rw [HSM.out.1, HKD.out]; decide)]
        have HPW := Lib.hid (plan0_w VA S M8 p m (.sets q cs) u L1 x pa cap alts c1 (HU8.out.below hB8A) (HBS8.out.below hB8A) (HDL8.out.below hB8A) HPM8.out HAN.out HRD.out (by rw [HXI.out]; exact HCI.out) HC1L.out HV.out (by rw [HSM.out.1, HKD.out]) HORG.out HZA.out (by rw [HXI.out]; exact HOL.out L1 c1.key) HQ1.out (by have := HF1.out; omega))
        have HPF := Lib.hid (fun he => planU_free (C := (Bs.sets q cs).pairs) (u := u) (x := x) (alts := alts) (c := c1) HQ1.out he)
        have HPC := Lib.hid (fun he => planU_cons (C := (Bs.sets q cs).pairs) (u := u) (L := L1) (x := x) (alts := alts) (c := c1) he)
        have HPZ0 := Lib.hid (planU_one (C := (Bs.sets q cs).pairs) (u := u) (L := L1) (x := x) (c := c1) HZA.out)
        have HPO := Lib.hid (HPL.out L1 c1 HC1L.out)
        have HP3 := Lib.hid (HPN.out L1 c1)
        have hRE := HRD1.out
        rw [hpln] at hRE
        obtain ⟨A, hA⟩ : ∃ A, A = planU (Bs.sets q cs).pairs u L1 x alts c1 := ⟨_, rfl⟩
        rw [← hA] at HPW HPF HPC HPO HP3 HPZ0 hRE
        obtain ⟨⟨pl, e2⟩, L2⟩ := A
        simp only at HPW HPF HPC HPO HP3 HPZ0 hRE
        have HRF := Lib.hid hRE
        clear hzA hbA hB8A hpln hA hRE HRD1
        go_wp2_with fail
        refine HPW.out.mono ?_
        rintro e VB ⟨vB, rfl, hrowB, MB, hmB, hvB, hownB⟩
        have HUB := Lib.hid (HUA.out.mg' hmB hvB)
        have HVB := Lib.hid ((HV8.out.step HB8A.out).trans hvB)
        have HOB := Lib.hid (show ∀ y, vB.ownBlock = some y → w.heap.size ≤ y ∧ y ∉ MB from fun y hy => ⟨by have := (hownB y hy).1; have h1 := HB8A.out.size; have h2 := HV8.out.only.size; omega, (hownB y hy).2⟩)
        clear hmB hvB hownB hstA ldX9 ldX99 k0A ldDA ldxA d19
        by_cases he2 : e2 = 0
        · subst he2
          have hRG := HRF.out
          rw [if_neg (by simp)] at hRG
          have HPF2 := Lib.hid (HPF.out (by simp))
          obtain ⟨l, hl⟩ := HPC.out rfl
          subst hl
          have HRG := Lib.hid (show R = if (locksU u L2 l).1 ≠ 0 then (([], (locksU u L2 l).1), (u, (locksU u L2 l).2)) else (if (addU u c1.key (ownC c1 :: l)).1 ≠ 0 then ([], (addU u c1.key (ownC c1 :: l)).1) else (c1.key, 0), ((addU u c1.key (ownC c1 :: l)).2, (locksU u L2 l).2)) from hRG)
          obtain ⟨ba, bc, hvs, hbc1, hbc2, hcell⟩ := RowE.cells encCh hrowB
          obtain ⟨g, hg, hog, _, hgl, hcl⟩ := hcell (by simp)
          subst hg
          subst hvs
          have HOG := Lib.hid (HOB.out g hog)
          have HRW := Lib.hid hrowB
          have HLNL := Lib.hid (show l.length ≤ 299 by have := HP3.out; simp only [List.length_cons] at this; omega)
          have HLDJ := Lib.hid (fun (j : Nat) (hj : j < l.length) (W : World) (T : List Nat) (ho : Only T VB W) (hgT : g ∉ T) => show (loadCh ⟨g, 5 + j * 5, none⟩).run Tryz.prog W = .ok (.agg l[j].cs) W from by
           have hh := fun (i : Nat) (v : Value) (hv : (chE l[j])[i]? = some v) => show W.cell? ⟨g, 5 + j * 5 + i, none⟩ = some v from by
            have h1 := hcl (j + 1) (by simpa using hj) i v (by simpa using hv)
            rw [show 5 + j * 5 + i = (j + 1) * 5 + i by omega]
            exact (ho.cell (p := ⟨g, (j + 1) * 5 + i, none⟩) hgl hgT).trans h1
           exact loadCh_mid (hh 0 _ rfl) (hh 1 _ rfl) (hh 2 _ rfl) (hh 3 _ rfl) (hh 4 _ rfl))
          have HL0 := Lib.hid (show l.length = 0 by have h := HPZ0.out rfl; simpa using h)
          have HF2 := Lib.hid (show L2.held.length ≤ 600000 by have h1 := HPF2.out.2; have h2 := HF1.out; have h3 := HAN.out; omega)
          have HST0 := Lib.hid (show LkSz VB S MB p m (Bs.sets q cs).val u L2 l 0 L2 MB VB from ⟨Nat.zero_le _, by rw [List.drop_zero], HUB.out, Mv.refl _ _, HPF2.out.1, by omega⟩)
          have HGL := Lib.hid hgl
          rw [List.length_cons] at hbc1
          have hn1 : (1 : Int) ≤ ((l.length + 1 : Nat) : Int) := by omega
          have hln : (ownC c1 :: l).length = l.length + 1 := rfl
          clear hRG hcell hog hrowB hgl hcl
          rw [hln]
          clear hln
          by_cases hb1 : bc = 1
          · subst hb1
            go_wp2_with fail
            go_loopw [111] (fun t wr => ∃ (j : Nat) (Lj : Ls) (Mj : List Nat), t = .int .i64 j ∧ LkSz VB S MB p m (Bs.sets q cs).val u L2 l j Lj Mj wr) (fun t _ => l.length - (intOf t).toNat)
            case atStart => exact ⟨0, L2, MB, rfl, HST0.out⟩
            case round =>
             obtain ⟨j, Lj, Mj, rfl, hs⟩ := hrel
             have HS := Lib.hid hs
             have hj := hs.le
             have hlnb : l.length ≤ 299 := HLNL.out
             by_cases hlt : j < l.length
             · exact absurd hlt (by have := HL0.out; omega)
             · have hltI : ¬ (j : Int) < (l.length : Int) := by omega
               have HLE := Lib.hid (show locksU u L2 l = (0, Lj) by rw [hs.eq, List.drop_eq_nil_of_le (by omega)]; rfl)
               have hgM := HS.out.mv.apart (T := [g]) (fun y hy => by rw [List.mem_singleton] at hy; subst hy; exact ⟨HOG.out.2, HGL.out⟩) g (by simp)
               have hrw := HRW.out.only HS.out.mv.only (fun y hy => by
                have hy : g = y := by simpa [Value.ownBlock] using hy
                subst hy; exact HOG.out.2)
               obtain ⟨a9, c9, hv9, _, _, hch9⟩ := chs_of_row hrw
               injection hv9 with ha9 hx1 hx2
               rw [← ha9] at hch9
               clear hx1 hx2
               have HADD := Lib.hid (uadd_at wr S p (Bs.sets q cs).val (lvOf m) u c1.key (some ⟨g, 0, none⟩) 1 (ownC c1 :: l) hs.um.un ⟨hch9, fun _ q0 e0 hm => by injection e0 with e0; subst e0; exact (HNM.out _ HOG.out.1).2 hm⟩ (by simp only [List.length_cons]; have := HLNL.out; omega)
                (fun y hy => by rcases List.mem_append.1 hy with h1 | h1; exact HUC.out y h1; exact (HPO.out y h1).1) (fun y hy => (HPO.out y hy).2) (by have := HC1L.out.len; omega) (fun e => by cases e)
                (fun i hi => by
                  have h1 := applyL_len { u with chs := u.chs ++ (ownC c1 :: l) } c1.key ((ownC c1 :: l).take i) ((ownC c1 :: l)[i]).id
                  have h2 := HLN.out ((ownC c1 :: l)[i]).id
                  have h3 : ownOf { u with chs := u.chs ++ (ownC c1 :: l) } ((ownC c1 :: l)[i]).id = ownOf u ((ownC c1 :: l)[i]).id := rfl
                  rw [h3, List.length_take, List.length_cons] at h1
                  have := HLNL.out
                  omega))
               have hRH := HRG.out
               rw [HLE.out] at hRH
               rw [if_neg (by simp)] at hRH
               obtain ⟨A2, hA2⟩ : ∃ A2, A2 = addU u c1.key (ownC c1 :: l) := ⟨_, rfl⟩
               rw [← hA2] at HADD hRH
               obtain ⟨a1, U2⟩ := A2
               simp only at HADD hRH
               have HRH := Lib.hid hRH
               clear hs hgM hrw ha9 hch9 hRH hA2
               go_wp2_with fail
               refine HADD.out.mono ?_
               rintro e W10 ⟨rfl, S10, hu10, hv10⟩
               have HU10 := Lib.hid (HS.out.um.un' hu10 hv10)
               have HV10 := Lib.hid hv10
               clear hu10 hv10
               by_cases ha : a1 = 0
               · subst ha
                 have HRE := Lib.hid (show R = ((c1.key, 0), (U2, Lj)) by rw [HRH.out, if_neg (by simp)])
                 go_wp2_with fail
                 go_ret2
                 exact ⟨by rw [HRE.out]; rfl, S10, Mj, by rw [HRE.out]; exact HU10.out, (HVB.out.trans HS.out.mv).right.trans HV10.out.left⟩
               · have ga : ((a1 : Int) != 0) = true := by simpa using ha
                 have HRE := Lib.hid (show R = (([], a1), (U2, Lj)) by rw [HRH.out, if_pos ha])
                 clear ha
                 go_wp2_with fail
                 go_ret2
                 exact ⟨by rw [HRE.out]; rfl, S10, Mj, by rw [HRE.out]; exact HU10.out, (HVB.out.trans HS.out.mv).right.trans HV10.out.left⟩
          · have hb1 := hb1
            go_wp2_with fail
            go_loopw [111] (fun t wr => ∃ (j : Nat) (Lj : Ls) (Mj : List Nat), t = .int .i64 j ∧ LkSz VB S MB p m (Bs.sets q cs).val u L2 l j Lj Mj wr) (fun t _ => l.length - (intOf t).toNat)
            case atStart => exact ⟨0, L2, MB, rfl, HST0.out⟩
            case round =>
             obtain ⟨j, Lj, Mj, rfl, hs⟩ := hrel
             have HS := Lib.hid hs
             have hj := hs.le
             have hlnb : l.length ≤ 299 := HLNL.out
             by_cases hlt : j < l.length
             · exact absurd hlt (by have := HL0.out; omega)
             · have hltI : ¬ (j : Int) < (l.length : Int) := by omega
               have HLE := Lib.hid (show locksU u L2 l = (0, Lj) by rw [hs.eq, List.drop_eq_nil_of_le (by omega)]; rfl)
               have hgM := HS.out.mv.apart (T := [g]) (fun y hy => by rw [List.mem_singleton] at hy; subst hy; exact ⟨HOG.out.2, HGL.out⟩) g (by simp)
               have hrw := HRW.out.only HS.out.mv.only (fun y hy => by
                have hy : g = y := by simpa [Value.ownBlock] using hy
                subst hy; exact HOG.out.2)
               obtain ⟨a9, c9, hv9, _, _, hch9⟩ := chs_of_row hrw
               injection hv9 with ha9 hx1 hx2
               rw [← ha9] at hch9
               clear hx1 hx2
               have HADD := Lib.hid (uadd_at wr S p (Bs.sets q cs).val (lvOf m) u c1.key (some ⟨g, 0, none⟩) bc (ownC c1 :: l) hs.um.un ⟨hch9, fun _ q0 e0 hm => by injection e0 with e0; subst e0; exact (HNM.out _ HOG.out.1).2 hm⟩ (by simp only [List.length_cons]; have := HLNL.out; omega)
                (fun y hy => by rcases List.mem_append.1 hy with h1 | h1; exact HUC.out y h1; exact (HPO.out y h1).1) (fun y hy => (HPO.out y hy).2) (by have := HC1L.out.len; omega) (fun e => by cases e)
                (fun i hi => by
                  have h1 := applyL_len { u with chs := u.chs ++ (ownC c1 :: l) } c1.key ((ownC c1 :: l).take i) ((ownC c1 :: l)[i]).id
                  have h2 := HLN.out ((ownC c1 :: l)[i]).id
                  have h3 : ownOf { u with chs := u.chs ++ (ownC c1 :: l) } ((ownC c1 :: l)[i]).id = ownOf u ((ownC c1 :: l)[i]).id := rfl
                  rw [h3, List.length_take, List.length_cons] at h1
                  have := HLNL.out
                  omega))
               have hRH := HRG.out
               rw [HLE.out] at hRH
               rw [if_neg (by simp)] at hRH
               obtain ⟨A2, hA2⟩ : ∃ A2, A2 = addU u c1.key (ownC c1 :: l) := ⟨_, rfl⟩
               rw [← hA2] at HADD hRH
               obtain ⟨a1, U2⟩ := A2
               simp only at HADD hRH
               have HRH := Lib.hid hRH
               clear hs hgM hrw ha9 hch9 hRH hA2
               go_wp2_with fail
               refine HADD.out.mono ?_
               rintro e W10 ⟨rfl, S10, hu10, hv10⟩
               have HU10 := Lib.hid (HS.out.um.un' hu10 hv10)
               have HV10 := Lib.hid hv10
               clear hu10 hv10
               by_cases ha : a1 = 0
               · subst ha
                 have HRE := Lib.hid (show R = ((c1.key, 0), (U2, Lj)) by rw [HRH.out, if_neg (by simp)])
                 go_wp2_with fail
                 go_ret2
                 exact ⟨by rw [HRE.out]; rfl, S10, Mj, by rw [HRE.out]; exact HU10.out, (HVB.out.trans HS.out.mv).right.trans HV10.out.left⟩
               · have ga : ((a1 : Int) != 0) = true := by simpa using ha
                 have HRE := Lib.hid (show R = (([], a1), (U2, Lj)) by rw [HRH.out, if_pos ha])
                 clear ha
                 go_wp2_with fail
                 go_ret2
                 exact ⟨by rw [HRE.out]; rfl, S10, Mj, by rw [HRE.out]; exact HU10.out, (HVB.out.trans HS.out.mv).right.trans HV10.out.left⟩
        · have ge2 : ((e2 : Int) != 0) = true := by simpa using he2
          have HRE := Lib.hid (show R = (([], e2), (u, L2)) by rw [HRF.out, if_pos he2])
          clear he2
          go_wp2_with fail
          go_ret2
          exact ⟨by rw [HRE.out]; rfl, S, MB, by rw [HRE.out]; exact HUB.out, HVB.out.right⟩
      · have gz : ((z1 : Int) != 0) = true := by simpa using hz1
        have HRE := Lib.hid (show R = (([], z1), (u, L1)) by rw [HRC.out, if_pos hz1])
        clear hz1
        go_wp2_with fail
        go_ret2
        exact ⟨by rw [HRE.out]; rfl, S, M8, by rw [HRE.out]; exact HU8.out, HV8.out.right⟩
  · have ge : ((e1 : Int) != 0) = true := by simpa using he1
    have HRE := Lib.hid (show R = (([], e1), (u, L)) by rw [HRR.out, if_pos he1])
    clear he1
    go_wp2_with fail
    go_ret2
    exact ⟨by rw [HRE.out]; rfl, S, M, by rw [HRE.out]; exact HU.out.below HB4.out, Mv.of_below HB4.out⟩
end
end

section
set_option linter.unusedSimpArgs false
set_option linter.unusedVariables false
open Go.RowKit Go.Sort
/-- The example's data set, empty. -/
def x50 : Co := ⟨⟨200, 0, 1, 128, 2, 0, 0, 0, 0, 0, false, 0, [], [], 0, 0, false⟩, 3, 0, 10, 0, 0, none, 0, []⟩
def c50 : Ch := ⟨0, 200, [], [107, 49], []⟩
def u9 : Un := ⟨9, [], [], []⟩
def u10 : Un := ⟨10, [], [], []⟩
def T50 (d : Ch) : By × Rg × Int := (d.key, pointR d.key, 0)
def C50 (_ : Int) : List Pr := []
def R1 : (By × Int) × (Un × Ls) := recX C50 u9 ⟨[], []⟩ x50 [] c50 T50
def R2 : (By × Int) × (Un × Ls) := recX C50 u10 R1.2.2 x50 [] c50 T50
def R3 : (By × Int) × Un × Ls := getN C50 R1.2.1 R2.2.2 200 [107]
def R4 : (By × By × Int) × Un × Ls := nextN C50 R3.2.1 R3.2.2 200 [97]
theorem kv50 : kvalP x50.z x50.org x50.fmt x50.len x50.blk = true := by decide +kernel
theorem R1_ret : R1.1 = ([107], 0) := by decide +kernel
theorem R1_queue : R1.2.2.queue.length = 0 := by decide +kernel
theorem R2_ret : R2.1 = ([], 15) := by decide +kernel
theorem R2_chs : R2.2.1.chs.length = 0 := by decide +kernel
theorem R3_ret : R3.1 = ([107, 49], 0) := by decide +kernel
theorem R4_ret : R4.1 = ([107], [107, 49], 0) := by decide +kernel
theorem R4_chs : R4.2.1.chs.map (·.key) = [[107]] := by decide +kernel
theorem R4_num : R4.2.1.num = 9 := by decide +kernel
theorem can3 : CanAsk R1.2.1 R2.2.2 200 (pointR [107]) false := ⟨by decide +kernel, Or.inr (by decide +kernel), by decide +kernel, by decide +kernel⟩
theorem can4 : CanAsk R3.2.1 R3.2.2 200 (rangeN [97] (nxtU C50 R3.2.1 200 [97])) false := ⟨by decide +kernel, Or.inr (by decide +kernel), by decide +kernel, by decide +kernel⟩
theorem R4_one : ∃ d, R4.2.1.chs = [d] ∧ d.key = [107] := by
 have hlen : R4.2.1.chs.length = 1 := by have := congrArg List.length R4_chs; simpa using this
 obtain ⟨d, hd⟩ := List.length_eq_one_iff.1 hlen
 have h := R4_chs
 rw [hd] at h
 exact ⟨d, hd, by simpa using h⟩
end

section
set_option linter.unusedSimpArgs false
set_option linter.unusedVariables false
open Go.RowKit Go.Sort
structure AwSt (W : World) (S1 S2 M : List Nat) (p1 p2 m : Nat) (b : Bs) (L : Ls) (u v : Un) : Prop where
 um : UM W S1 M p1 m b.val u L
 vm : UM W S2 M p2 m b.val v L
 dis : ∀ x ∈ S1, x ∉ S2
 bs : BsAt W (S1 ++ S2 ++ M) b
section
variable {W W' : World} {S1 S2 M S1' S2' M' : List Nat} {p1 p2 m : Nat} {b : Bs} {L L' : Ls} {u v u' v' : Un}
theorem AwSt.below (h : AwSt W S1 S2 M p1 p2 m b L u v) (hb : Below W.heap.size W W') : AwSt W' S1 S2 M p1 p2 m b L u v :=
 ⟨h.um.below hb, h.vm.below hb, h.dis, h.bs.below hb⟩
theorem AwSt.step1 (h : AwSt W S1 S2 M p1 p2 m b L u v) (hu : UM W' S1' M' p1 m b.val u' L') (hv : Mv (S1 ++ M) W (S1' ++ M') W') : AwSt W' S1' S2 M' p1 p2 m b L' u' v := by
 have hS2 : ∀ x ∈ S2, x ∉ S1 ++ M ∧ x < W.heap.size := fun x hx => ⟨fun hm => by
  rcases List.mem_append.1 hm with q | q
  · exact h.dis x q hx
  · exact h.vm.dis x hx q, h.vm.un.lt x hx⟩
 have hap := hv.apart hS2
 refine ⟨hu, ⟨h.vm.un.only hv.only (fun x hx => (hS2 x hx).1), hu.mg, fun x hx hm => hap x hx (List.mem_append_right _ hm)⟩, fun x hx hs => hap x hs (List.mem_append_left _ hx), h.bs.mv ⟨hv.only.mono (fun x hx _ => ?_), fun x hx => ?_⟩⟩
 · rcases List.mem_append.1 hx with q | q
   · exact List.mem_append_left _ (List.mem_append_left _ q)
   · exact List.mem_append_right _ q
 · have key : x ∈ S1' ++ M' → x ∈ S1 ++ S2 ++ M ∨ W.heap.size ≤ x ∧ x < W'.heap.size := fun hx' => (hv.new x hx').imp (fun q => by
    rcases List.mem_append.1 q with q | q
    · exact List.mem_append_left _ (List.mem_append_left _ q)
    · exact List.mem_append_right _ q) id
   rcases List.mem_append.1 hx with q | q
   · rcases List.mem_append.1 q with q | q
     · exact key (List.mem_append_left _ q)
     · exact Or.inl (List.mem_append_left _ (List.mem_append_right _ q))
   · exact key (List.mem_append_right _ q)
theorem AwSt.step2 (h : AwSt W S1 S2 M p1 p2 m b L u v) (hu : UM W' S2' M' p2 m b.val v' L') (hv : Mv (S2 ++ M) W (S2' ++ M') W') : AwSt W' S1 S2' M' p1 p2 m b L' u v' := by
 have hS1 : ∀ x ∈ S1, x ∉ S2 ++ M ∧ x < W.heap.size := fun x hx => ⟨fun hm => by
  rcases List.mem_append.1 hm with q | q
  · exact h.dis x hx q
  · exact h.um.dis x hx q, h.um.un.lt x hx⟩
 have hap := hv.apart hS1
 refine ⟨⟨h.um.un.only hv.only (fun x hx => (hS1 x hx).1), hu.mg, fun x hx hm => hap x hx (List.mem_append_right _ hm)⟩, hu, fun x hx hs => hap x hx (List.mem_append_left _ hs), h.bs.mv ⟨hv.only.mono (fun x hx _ => ?_), fun x hx => ?_⟩⟩
 · rcases List.mem_append.1 hx with q | q
   · exact List.mem_append_left _ (List.mem_append_right _ q)
   · exact List.mem_append_right _ q
 · have key : x ∈ S2' ++ M' → x ∈ S1 ++ S2 ++ M ∨ W.heap.size ≤ x ∧ x < W'.heap.size := fun hx' => (hv.new x hx').imp (fun q => by
    rcases List.mem_append.1 q with q | q
    · exact List.mem_append_left _ (List.mem_append_right _ q)
    · exact List.mem_append_right _ q) id
   rcases List.mem_append.1 hx with q | q
   · rcases List.mem_append.1 q with q | q
     · exact Or.inl (List.mem_append_left _ (List.mem_append_left _ q))
     · exact key (List.mem_append_left _ q)
   · exact key (List.mem_append_right _ q)
end
theorem pairs50 (q : Nat) : (Bs.sets q [x50]).pairs = C50 := by
 funext id
 show pairsP id [x50] = []
 unfold pairsP
 by_cases h : x50.z.id = id
 · rw [List.find?_cons_of_pos (by simpa using h)]; rfl
 · rw [List.find?_cons_of_neg (by simpa using h)]; rfl
theorem chl50 : ChLen c50 := ⟨by unfold I64; rfl, by decide +kernel⟩
theorem plan50 (C : Int → List Pr) (u : Un) (L : Ls) (c : Ch) : (planU C u L x50 [] c).1.1 = [] ∨ ((planU C u L x50 [] c).1.1 = [ownC c] ∧ c.id = 200) := by
 unfold planU
 by_cases h1 : sphP x50 [] = false ∨ chgA x50 c = false
 · rw [if_pos h1]; exact Or.inl rfl
 · rw [if_neg h1]
   have hid : c.id = 200 := by
    have h2 : chgA x50 c = true := by
     cases h : chgA x50 c with
     | true => rfl
     | false => exact absurd (Or.inr h) h1
    unfold chgA chgB at h2
    simp only [Bool.and_eq_true, decide_eq_true_eq] at h2
    exact h2.1
   by_cases h2 : c.kind = 3
   · rw [if_pos h2]; exact Or.inr ⟨rfl, hid⟩
   · rw [if_neg h2]
     by_cases h3 : (oldU C u L x50 c).1.2 ≠ 0 ∧ ((oldU C u L x50 c).1.2 ≠ 6 ∨ c.kind = 1)
     · rw [if_pos h3]; exact Or.inl rfl
     · rw [if_neg h3]; exact Or.inr ⟨rfl, hid⟩
theorem ownC_len {c : Ch} (h : ChLen c) : ChLen (ownC c) := by
 unfold ownC
 split
 · exact ⟨h.k64, by simp, h.len.2⟩
 · exact h
theorem get50 (u : Un) (hu : u.sets = []) (L : Ls) (k : By) : (getU C50 u L 200 k).1.1.length ≤ 100000 := by
 have hc : chgU u 200 k = none := by unfold chgU; rw [hu]; rfl
 unfold getU
 split
 · simp
 · obtain ⟨e, L'⟩ := lockU u L 200 (pointR k) false
   dsimp only
   split
   · simp
   · rw [hc]; show (getL k []).1.length ≤ _; rw [getL_nil]; simp
/-- The example's put. -/
theorem do50 (W : World) (S M : List Nat) (p m q : Nat) (u : Un) (L : Ls) (h : UM W S M p m (Bs.sets q [x50]).val u L) (hb : BsAt W M (.sets q [x50])) (hbS : BsAt W S (.sets q [x50])) (hu : u.sets = []) (huc : u.chs = []) (hq : L.queue = []) (hf : L.held.length ≤ 500000) :
 Calls Tryz.prog 39 #[.pointer (some ⟨p, 0, none⟩), .agg c50.cs] W fun e w' => DoE (recX C50 u L x50 [] c50 T50) S M p m (Bs.sets q [x50]).val W e w' :=
 udo_rec W S M p m _ c50 _ (Or.inl rfl) (fun V hV => by
  have := urec_kz V S M p m q [x50] u L c50 x50 [] (h.below hV) (hb.below hV) (hbS.below hV) rfl rfl (by simp) rfl rfl rfl rfl chl50 (by unfold I64; rfl) (by rw [huc]; simp) (fun id => by unfold ownOf; rw [hu]; simp [alook]) kv50 (by simp) rfl
   (fun L' k => by rw [pairs50]; exact get50 u hu L' k) hq hf
   (fun L' c' hc' d hd => by
     rcases plan50 (Bs.sets q [x50]).pairs u L' c' with h1 | ⟨h1, h2⟩
     · rw [h1] at hd; cases hd
     · rw [h1, List.mem_singleton] at hd
       subst hd
       refine ⟨ownC_len hc', ?_⟩
       have : (ownC c').id = 200 := by unfold ownC; split <;> exact h2
       rw [this]; unfold I64; rfl)
   (fun L' c' => by
     rcases plan50 (Bs.sets q [x50]).pairs u L' c' with h1 | ⟨h1, _⟩ <;> rw [h1] <;> simp)
  rw [pairs50] at this
  exact this)
end

end Go.Proofs.YtcefkngblddpoaaGreatDoor

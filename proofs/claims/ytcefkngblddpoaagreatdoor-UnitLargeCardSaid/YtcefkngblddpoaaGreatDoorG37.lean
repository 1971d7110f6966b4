/-
  Walk: the first pair behind a key, as a unit sees it. Condition: unit, manager and base lie in memory, apart; the lock can be asked for.
  Walks: going on from a key; the unit as a reader whose reads are not noted. Condition: unit, manager and base lie in memory, apart; the lock can be asked for.
-/
import Derived.Test.YtcefkngblddpoaaGreatDoorG36
namespace Go.Proofs.YtcefkngblddpoaaGreatDoor

section
set_option maxRecDepth 100000
set_option maxHeartbeats 16000000
set_option linter.unusedSimpArgs false
set_option linter.unusedVariables false
open Go.RowKit Go.Sort
section
attribute [local go_sem ↓] loadSn_down storeSn_down loadRg_down storeRg_down
theorem unext_w (w : World) (S M : List Nat) (p m : Nat) (b : Bs) (u : Un) (L : Ls) (id : Int) (k : By) (h : UM w S M p m b.val u L) (hb : BsAt w M b) (hr : Rise (b.pairs id)) (hkl : ∀ q ∈ b.pairs id, q.1.length ≤ 1000000) (hi : I64 id) (hc : CanAsk u L id (rangeN k (nxtU b.pairs u id k)) false) :
 Calls Tryz.prog 50 #[.pointer (some ⟨p, 0, none⟩), .int .i64 id, .string ⟨k.toArray⟩] w fun e w' => e = .returned (.tuple (nextT (nextU b.pairs u L id k).1)) ∧ ∃ M', MgAt w' M' m (nextU b.pairs u L id k).2 ∧ Mv M w M' w' := by
 obtain ⟨R, hR⟩ : ∃ R, R = nextU b.pairs u L id k := ⟨_, rfl⟩
 rw [← hR]
 unfold nextU at hR
 by_cases h1 : 32 < k.length
 · rw [if_pos h1] at hR
   have HR := Lib.hid hR
   have HM := Lib.hid h.mg
   have g1 : (32 : Int) < (k.length : Int) := by omega
   clear hR h1 h hb hr hkl hi hc
   go_enter Tryz.func50, Tryz.ntmps50
   go_wp2_with fail
   go_ret3
   exact ⟨by rw [HR.out]; rfl, M, by rw [HR.out]; exact HM.out, Mv.refl _ _⟩
 · rw [if_neg h1] at hR
   have g1 : ¬ (32 : Int) < (k.length : Int) := by omega
   have HCM := Lib.hid (ucom_w w S M p m b u id k h.un hb hr hkl hi)
   obtain ⟨q0, hq0⟩ : ∃ q0, q0 = comU b.pairs u id k := ⟨_, rfl⟩
   rw [← hq0] at HCM
   obtain ⟨qn, hqn⟩ : ∃ qn, qn = nxtU b.pairs u id k := ⟨_, rfl⟩
   rw [← hqn] at hR hc
   unfold nxtU at hqn
   rw [← hq0] at hqn
   have HL := Lib.hid (fun (W : World) (hW : Below w.heap.size w W) => ulock_w W S p b.val M m L u id (rangeN k qn) false (h.un.below hW) (h.mg.below hW) hc.1 hc.2.1 hc.2.2)
   obtain ⟨z, hz⟩ : ∃ z, z = lockU u L id (rangeN k qn) false := ⟨_, rfl⟩
   rw [← hz] at hR HL
   obtain ⟨e2, L1⟩ := z
   simp only at hR HL
   have HFR := Lib.hid (fun W => from_any k W)
   obtain ⟨kk, hkp, _, _, _, hk⟩ := h.un
   subst hkp
   have HROW := Lib.hid hk.row
   have hue := hk.look id
   unfold keysU at hqn
   rw [hue] at hqn
   have HLK := Lib.hid (fun (W : World) (hW : Below w.heap.size w W) => look_os (hk.below hW) hi)
   have HOW := Lib.hid (fun (o : OwK) (ho : alook kk.os id = some o) => hk.at ho)
   clear hq0 hz hb hr hkl hi hc hk hue h h1
   cases ho : alook kk.os id with
   | none =>
     rw [ho] at hqn HLK
     simp only [Option.map_none, Option.getD_none, Option.isSome_none, List.foldl_nil] at hqn HLK
     subst hqn
     clear ho HOW
     cases qn with
     | none =>
       simp only [nextT, answN] at HCM
       go_enter Tryz.func50, Tryz.ntmps50
       go_wp2_with fail
       refine HCM.out.mono ?_
       rintro e W1 ⟨rfl, hb1⟩
       have HB1 := Lib.hid hb1
       have hlk := HLK.out W1 hb1
       have c4 := cell_at (i := 4) (v := .map (some kk.mb)) (heap_below hb1 (lt_of_block HROW.out) HROW.out) rfl
       clear hb1
       obtain ⟨W10, hst10, hz10, hb10⟩ := put_rg W1 ⟨k, [], false⟩
       have HB10 := Lib.hid (HB1.out.trans (hb10.mono HB1.out.size))
       simp only [rangeN, fromR] at HL
       have HZ10 := Lib.hid hz10
       have HP10 := Lib.hid hb10
       clear hz10 hb10
       go_wp2_with fail
       refine (HFR.out W10).mono ?_
       rintro e W10b ⟨rfl, hb10b⟩
       have hz10b := heap_below hb10b (lt_of_block HZ10.out) HZ10.out
       have hst11 := storeRg_at (cs := #[.string ⟨k.toArray⟩, .string ⟨#[]⟩, .bool true]) hz10b rfl rfl (by simp [Value.oneCell'])
       have hz11 := setRow_heap W10b W1.heap.size _ #[.string ⟨k.toArray⟩, .string ⟨#[]⟩, .bool true] _ _ hz10b
       have hb11 := below_setRow ((HP10.out.mono (Nat.le_refl _)).trans (hb10b.mono HP10.out.size)) (Nat.le_refl W1.heap.size) #[.string ⟨k.toArray⟩, .string ⟨#[]⟩, .bool true]
       obtain ⟨W11, hW11⟩ : ∃ W11, W11 = W10b.setRow W1.heap.size #[.string ⟨k.toArray⟩, .string ⟨#[]⟩, .bool true] := ⟨_, rfl⟩
       rw [← hW11] at hst11 hz11 hb11
       have HB11 := Lib.hid (HB1.out.trans (hb11.mono HB1.out.size))
       have ld11 := loadRg_at hz11 rfl
       clear hz10b hz11 hb11 hb10b hst10 hW11
       by_cases he2 : e2 = 0
       · subst he2
         have HR := Lib.hid (show R = (([], [], 6), L1) by rw [hR, if_neg (by simp)]; rfl)
         clear hR
         go_wp2_with fail
         refine (HL.out W11 HB11.out).mono ?_
         rintro e W12 ⟨rfl, M2, hm2, hv2⟩
         have HM2 := Lib.hid hm2
         have HV2 := Lib.hid ((Mv.of_below HB11.out).trans hv2)
         clear hm2 hv2 ld11 hst11
         go_wp2_with fail
         go_ret3
         exact ⟨by rw [HR.out]; rfl, M2, by rw [HR.out]; exact HM2.out, HV2.out⟩
       · have HR := Lib.hid (show R = (([], [], e2), L1) by rw [hR, if_pos he2])
         have ge2 : ((e2 : Int) != 0) = true := by simpa using he2
         clear hR he2
         go_wp2_with fail
         refine (HL.out W11 HB11.out).mono ?_
         rintro e W12 ⟨rfl, M2, hm2, hv2⟩
         have HM2 := Lib.hid hm2
         have HV2 := Lib.hid ((Mv.of_below HB11.out).trans hv2)
         clear hm2 hv2 ld11 hst11
         go_wp2_with fail
         go_ret3
         exact ⟨by rw [HR.out]; rfl, M2, by rw [HR.out]; exact HM2.out, HV2.out⟩
     | some pp =>
       obtain ⟨pk, pr⟩ := pp
       simp only [nextT, answN] at HCM
       go_enter Tryz.func50, Tryz.ntmps50
       go_wp2_with fail
       refine HCM.out.mono ?_
       rintro e W1 ⟨rfl, hb1⟩
       have HB1 := Lib.hid hb1
       have hlk := HLK.out W1 hb1
       have c4 := cell_at (i := 4) (v := .map (some kk.mb)) (heap_below hb1 (lt_of_block HROW.out) HROW.out) rfl
       clear hb1
       obtain ⟨W11, hst11, hz11, hb11⟩ := put_rg W1 ⟨k, pk, false⟩
       have HB11 := Lib.hid (HB1.out.trans (hb11.mono HB1.out.size))
       have ld11 := loadRg_at hz11 rfl
       simp only [rangeN] at HL
       clear hz11 hb11
       by_cases he2 : e2 = 0
       · subst he2
         have HR := Lib.hid (show R = ((pk, pr, 0), L1) by rw [hR, if_neg (by simp)]; rfl)
         clear hR
         go_wp2_with fail
         refine (HL.out W11 HB11.out).mono ?_
         rintro e W12 ⟨rfl, M2, hm2, hv2⟩
         have HM2 := Lib.hid hm2
         have HV2 := Lib.hid ((Mv.of_below HB11.out).trans hv2)
         clear hm2 hv2 ld11 hst11
         go_wp2_with fail
         go_ret3
         exact ⟨by rw [HR.out]; rfl, M2, by rw [HR.out]; exact HM2.out, HV2.out⟩
       · have HR := Lib.hid (show R = (([], [], e2), L1) by rw [hR, if_pos he2])
         have ge2 : ((e2 : Int) != 0) = true := by simpa using he2
         clear hR he2
         go_wp2_with fail
         refine (HL.out W11 HB11.out).mono ?_
         rintro e W12 ⟨rfl, M2, hm2, hv2⟩
         have HM2 := Lib.hid hm2
         have HV2 := Lib.hid ((Mv.of_below HB11.out).trans hv2)
         clear hm2 hv2 ld11 hst11
         go_wp2_with fail
         go_ret3
         exact ⟨by rw [HR.out]; rfl, M2, by rw [HR.out]; exact HM2.out, HV2.out⟩
   | some o =>
     rw [ho] at hqn HLK
     simp only [Option.map_some, Option.getD_some, Option.isSome_some] at hqn HLK
     have HO := Lib.hid (HOW.out o ho)
     have HQN := Lib.hid hqn
     clear ho hqn HOW
     cases q0 with
     | none =>
       simp only [nextT, answN] at HCM
       go_enter Tryz.func50, Tryz.ntmps50
       go_wp2_with fail
       refine HCM.out.mono ?_
       rintro e W1 ⟨rfl, hb1⟩
       have HB1 := Lib.hid hb1
       have hlk := HLK.out W1 hb1
       have c4 := cell_at (i := 4) (v := .map (some kk.mb)) (heap_below hb1 (lt_of_block HROW.out) HROW.out) rfl
       clear hb1
       have ho1 := HO.out.only (Only.of_below (S := []) HB1.out) (fun _ _ hm => by cases hm)
       have d1 := cell_at (i := 1) (v := .map (some o.kb)) ho1.row rfl
       have HO1 := Lib.hid ho1
       clear ho1
       go_wp2_with (refine wpList_arange rfl _ rfl Tryz.underlying201 HO1.out.keys rfl ?_)
       intro W2 hr2 hg2 _
       have HR2 := Lib.hid hr2
       have HO2 := Lib.hid ((Only.refl [W1.heap.size] W1).grown hg2 (fun k hk => by cases hk))
       have HKN := Lib.hid (amap_nodup HO1.out.keys)
       clear hr2 hg2 hlk c4 d1
       go_wp2_with fail
       go_loopw [9, 10, 11] (fun ta tr te wr => ∃ (q : Option Pr) (Lz : List (By × Option By)), ta = .string ⟨(answN q).1.toArray⟩ ∧ tr = .string ⟨(answN q).2.1.toArray⟩ ∧ te = .int .i64 (answN q).2.2 ∧ q = Lz.foldl (betU k) none ∧ (∀ p ∈ Lz, p ∈ o.x.keys) ∧ (Lz.map Prod.fst).Nodup ∧ arange wr o.kb W1.heap.size kS seenV okS o.x.keys (Lz.map Prod.fst).reverse ∧ Only [W1.heap.size] W1 wr) (fun _ _ _ wr => wr.rangeLeft o.kb W1.heap.size)
       case atStart => exact ⟨none, [], rfl, rfl, rfl, rfl, fun p hp => by (cases hp), by simp, HR2.out, HO2.out⟩
       case round =>
        obtain ⟨q, Lz, rfl, rfl, rfl, hq, hsub, hnd, hra, hon⟩ := hrel
        have HQ := Lib.hid hq
        have HSUB := Lib.hid hsub
        have HND := Lib.hid hnd
        have HRA := Lib.hid hra
        have HON := Lib.hid hon
        have HLE := Lib.hid (arange_left hra)
        have HBR := Lib.hid (HB1.out.trans (hon.below HB1.out.size (fun x hx => by rw [List.mem_singleton] at hx; rw [hx]; exact HB1.out.size)))
        clear hq hsub hnd hra hon
        go_wp2_with (refine wpList_anext rfl _ rfl HRA.out rfl ?_ ?_)
        · intro hall
          have hfin : qn = q := by
           rw [HQN.out, HQ.out]
           exact (fold_all k _ HKN.out HND.out HSUB.out (fun p hp => by have := hall p.1 p.2 (by simpa using hp); simpa using this)).symm
          subst hfin
          clear hall HQ HQN HRA HLE HON HSUB HND
          cases qn with
          | none =>
            simp only [answN]
            obtain ⟨W10, hst10, hz10, hb10⟩ := put_rg wr ⟨k, [], false⟩
            have HB10 := Lib.hid (HBR.out.trans (hb10.mono HBR.out.size))
            simp only [rangeN, fromR] at HL
            have HZ10 := Lib.hid hz10
            have HP10 := Lib.hid hb10
            clear hz10 hb10
            go_wp2_with fail
            refine (HFR.out W10).mono ?_
            rintro e W10b ⟨rfl, hb10b⟩
            have hz10b := heap_below hb10b (lt_of_block HZ10.out) HZ10.out
            have hst11 := storeRg_at (cs := #[.string ⟨k.toArray⟩, .string ⟨#[]⟩, .bool true]) hz10b rfl rfl (by simp [Value.oneCell'])
            have hz11 := setRow_heap W10b wr.heap.size _ #[.string ⟨k.toArray⟩, .string ⟨#[]⟩, .bool true] _ _ hz10b
            have hb11 := below_setRow ((HP10.out.mono (Nat.le_refl _)).trans (hb10b.mono HP10.out.size)) (Nat.le_refl wr.heap.size) #[.string ⟨k.toArray⟩, .string ⟨#[]⟩, .bool true]
            obtain ⟨W11, hW11⟩ : ∃ W11, W11 = W10b.setRow wr.heap.size #[.string ⟨k.toArray⟩, .string ⟨#[]⟩, .bool true] := ⟨_, rfl⟩
            rw [← hW11] at hst11 hz11 hb11
            have HB11 := Lib.hid (HBR.out.trans (hb11.mono HBR.out.size))
            have ld11 := loadRg_at hz11 rfl
            clear hz10b hz11 hb11 hb10b hst10 hW11
            by_cases he2 : e2 = 0
            · subst he2
              have HR := Lib.hid (show R = (([], [], 6), L1) by rw [hR, if_neg (by simp)]; rfl)
              clear hR
              go_wp2_with fail
              refine (HL.out W11 HB11.out).mono ?_
              rintro e W12 ⟨rfl, M2, hm2, hv2⟩
              have HM2 := Lib.hid hm2
              have HV2 := Lib.hid ((Mv.of_below HB11.out).trans hv2)
              clear hm2 hv2 ld11 hst11
              go_wp2_with fail
              go_ret3
              exact ⟨by rw [HR.out]; rfl, M2, by rw [HR.out]; exact HM2.out, HV2.out⟩
            · have HR := Lib.hid (show R = (([], [], e2), L1) by rw [hR, if_pos he2])
              have ge2 : ((e2 : Int) != 0) = true := by simpa using he2
              clear hR he2
              go_wp2_with fail
              refine (HL.out W11 HB11.out).mono ?_
              rintro e W12 ⟨rfl, M2, hm2, hv2⟩
              have HM2 := Lib.hid hm2
              have HV2 := Lib.hid ((Mv.of_below HB11.out).trans hv2)
              clear hm2 hv2 ld11 hst11
              go_wp2_with fail
              go_ret3
              exact ⟨by rw [HR.out]; rfl, M2, by rw [HR.out]; exact HM2.out, HV2.out⟩
          | some pp =>
            obtain ⟨pk, pr⟩ := pp
            simp only [answN]
            obtain ⟨W11, hst11, hz11, hb11⟩ := put_rg wr ⟨k, pk, false⟩
            have HB11 := Lib.hid (HBR.out.trans (hb11.mono HBR.out.size))
            have ld11 := loadRg_at hz11 rfl
            simp only [rangeN] at HL
            clear hz11 hb11
            by_cases he2 : e2 = 0
            · subst he2
              have HR := Lib.hid (show R = ((pk, pr, 0), L1) by rw [hR, if_neg (by simp)]; rfl)
              clear hR
              go_wp2_with fail
              refine (HL.out W11 HB11.out).mono ?_
              rintro e W12 ⟨rfl, M2, hm2, hv2⟩
              have HM2 := Lib.hid hm2
              have HV2 := Lib.hid ((Mv.of_below HB11.out).trans hv2)
              clear hm2 hv2 ld11 hst11
              go_wp2_with fail
              go_ret3
              exact ⟨by rw [HR.out]; rfl, M2, by rw [HR.out]; exact HM2.out, HV2.out⟩
            · have HR := Lib.hid (show R = (([], [], e2), L1) by rw [hR, if_pos he2])
              have ge2 : ((e2 : Int) != 0) = true := by simpa using he2
              clear hR he2
              go_wp2_with fail
              refine (HL.out W11 HB11.out).mono ?_
              rintro e W12 ⟨rfl, M2, hm2, hv2⟩
              have HM2 := Lib.hid hm2
              have HV2 := Lib.hid ((Mv.of_below HB11.out).trans hv2)
              clear hm2 hv2 ld11 hst11
              go_wp2_with fail
              go_ret3
              exact ⟨by rw [HR.out]; rfl, M2, by rw [HR.out]; exact HM2.out, HV2.out⟩
        · intro n v W7 hmem hnz0 hni hra7 hg7 hs7 hent
          have hnz : n ∉ (Lz.map Prod.fst).reverse := by simpa using hnz0
          clear hnz0
          cases v with
          | none =>
            have HRA7 := Lib.hid hra7
            have HON7 := Lib.hid (HON.out.grown hg7 (fun k hk => Or.inl (by rw [Option.some.inj hk.symm]; simp)))
            have HLT := Lib.hid (Nat.lt_of_lt_of_eq (left_less hmem hnz) HLE.out.symm)
            have HSUB7 := Lib.hid (show ∀ p ∈ Lz ++ [(n, (none : Option By))], p ∈ o.x.keys from fun p hp => by
             rcases List.mem_append.1 hp with hp | hp
             · exact HSUB.out p hp
             · rw [List.mem_singleton.1 hp]; exact hmem)
            have HND7 := Lib.hid (show ((Lz ++ [(n, (none : Option By))]).map Prod.fst).Nodup by
             rw [List.map_append, List.nodup_append]
             refine ⟨HND.out, by simp, fun a ha b hb e => ?_⟩
             simp at hb
             subst hb e
             exact hnz (by rw [List.mem_reverse]; exact ha))
            have HRV := Lib.hid (show ((Lz ++ [(n, (none : Option By))]).map Prod.fst).reverse = n :: (Lz.map Prod.fst).reverse by simp)
            have HFO := Lib.hid (show (Lz ++ [(n, (none : Option By))]).foldl (betU k) none = betU k q (n, (none : Option By)) by rw [List.foldl_append, ← HQ.out]; rfl)
            obtain ⟨W8, hst8, hz8, hb8⟩ := put_sn W7 ((none : Option By))
            simp only [snC] at hst8 hz8
            simp only [seenV] at hent
            have HON8 := Lib.hid (HON7.out.step_below hb8)
            have HRA8 := Lib.hid (arange_keep HRA7.out (hb8.block _ (amap_lt (arange_amap HRA7.out))) (hb8.block _ (arange_lt HRA7.out)))
            clear hmem hnz hni hra7 hg7 hs7 HLE HSUB HND HRA HON
            have f0 := cell_at (i := 0) (v := .bool false) hz8 rfl
            have HBE := Lib.hid (show betU k q (n, (none : Option By)) = q from rfl)
            clear hz8 hb8
            go_wp2_with fail
            go_roundw
            case rel => exact ⟨q, Lz ++ [(n, (none : Option By))], rfl, rfl, rfl, by rw [HFO.out]; exact HBE.out.symm, HSUB7.out, HND7.out, by rw [HRV.out]; exact HRA8.out, HON8.out⟩
            case measure => exact (Nat.lt_of_le_of_lt (Nat.le_of_eq (arange_left HRA8.out)) HLT.out)
          | some r =>
            have HRA7 := Lib.hid hra7
            have HON7 := Lib.hid (HON.out.grown hg7 (fun k hk => Or.inl (by rw [Option.some.inj hk.symm]; simp)))
            have HLT := Lib.hid (Nat.lt_of_lt_of_eq (left_less hmem hnz) HLE.out.symm)
            have HSUB7 := Lib.hid (show ∀ p ∈ Lz ++ [(n, some r)], p ∈ o.x.keys from fun p hp => by
             rcases List.mem_append.1 hp with hp | hp
             · exact HSUB.out p hp
             · rw [List.mem_singleton.1 hp]; exact hmem)
            have HND7 := Lib.hid (show ((Lz ++ [(n, some r)]).map Prod.fst).Nodup by
             rw [List.map_append, List.nodup_append]
             refine ⟨HND.out, by simp, fun a ha b hb e => ?_⟩
             simp at hb
             subst hb e
             exact hnz (by rw [List.mem_reverse]; exact ha))
            have HRV := Lib.hid (show ((Lz ++ [(n, some r)]).map Prod.fst).reverse = n :: (Lz.map Prod.fst).reverse by simp)
            have HFO := Lib.hid (show (Lz ++ [(n, some r)]).foldl (betU k) none = betU k q (n, some r) by rw [List.foldl_append, ← HQ.out]; rfl)
            obtain ⟨W8, hst8, hz8, hb8⟩ := put_sn W7 (some r)
            simp only [snC] at hst8 hz8
            simp only [seenV] at hent
            have HON8 := Lib.hid (HON7.out.step_below hb8)
            have HRA8 := Lib.hid (arange_keep HRA7.out (hb8.block _ (amap_lt (arange_amap HRA7.out))) (hb8.block _ (arange_lt HRA7.out)))
            clear hmem hnz hni hra7 hg7 hs7 HLE HSUB HND HRA HON
            have f0 := cell_at (i := 0) (v := .bool true) hz8 rfl
            have f1 := cell_at (i := 1) (v := .string ⟨r.toArray⟩) hz8 rfl
            clear hz8 hb8
            cases hkn : Op.bytesLess k n with
            | false =>
              have HBE := Lib.hid (show betU k q (n, some r) = q by unfold betU; simp [hkn])
              cases hnk : Op.bytesLess n k with
              | true =>
                go_wp2_with fail
                go_roundw
                case rel => exact ⟨q, Lz ++ [(n, some r)], rfl, rfl, rfl, by rw [HFO.out]; exact HBE.out.symm, HSUB7.out, HND7.out, by rw [HRV.out]; exact HRA8.out, HON8.out⟩
                case measure => exact (Nat.lt_of_le_of_lt (Nat.le_of_eq (arange_left HRA8.out)) HLT.out)
              | false =>
                have hek : (n == k) = true := by
                 have := gt_eq n k
                 rw [hnk, hkn] at this
                 simpa using this
                go_wp2_with fail
                go_roundw
                case rel => exact ⟨q, Lz ++ [(n, some r)], rfl, rfl, rfl, by rw [HFO.out]; exact HBE.out.symm, HSUB7.out, HND7.out, by rw [HRV.out]; exact HRA8.out, HON8.out⟩
                case measure => exact (Nat.lt_of_le_of_lt (Nat.le_of_eq (arange_left HRA8.out)) HLT.out)
            | true =>
              have hnk := ls_asym hkn
              have hek : (n == k) = false := by
               have := gt_eq n k
               rw [hnk, hkn] at this
               simpa using this
              cases q with
              | none =>
                have HBE := Lib.hid (show betU k none (n, some r) = some (n, r) by unfold betU; simp [hkn])
                simp only [answN]
                go_wp2_with fail
                go_quiet (fail)
                go_wp2_with fail
                go_roundw
                case rel => exact ⟨some (n, r), Lz ++ [(n, some r)], rfl, rfl, rfl, by rw [HFO.out]; exact HBE.out.symm, HSUB7.out, HND7.out, by rw [HRV.out]; exact arange_keep HRA8.out rfl rfl, HON8.out.drewN _⟩
                case measure => exact (Nat.lt_of_le_of_lt (Nat.le_of_eq (arange_left (arange_keep (w := W8) HRA8.out rfl rfl))) HLT.out)
              | some oo =>
                obtain ⟨ok, orr⟩ := oo
                simp only [answN]
                cases hno : Op.bytesLess n ok with
                | true =>
                  have HBE := Lib.hid (show betU k (some (ok, orr)) (n, some r) = some (n, r) by unfold betU; simp [hkn, hno])
                  go_wp2_with fail
                  go_quiet (fail)
                  go_wp2_with fail
                  go_roundw
                  case rel => exact ⟨some (n, r), Lz ++ [(n, some r)], rfl, rfl, rfl, by rw [HFO.out]; exact HBE.out.symm, HSUB7.out, HND7.out, by rw [HRV.out]; exact arange_keep HRA8.out rfl rfl, HON8.out.drewN _⟩
                  case measure => exact (Nat.lt_of_le_of_lt (Nat.le_of_eq (arange_left (arange_keep (w := W8) HRA8.out rfl rfl))) HLT.out)
                | false =>
                  have HBE := Lib.hid (show betU k (some (ok, orr)) (n, some r) = some (ok, orr) by unfold betU; simp [hkn, hno])
                  go_wp2_with fail
                  go_roundw
                  case rel => exact ⟨some (ok, orr), Lz ++ [(n, some r)], rfl, rfl, rfl, by rw [HFO.out]; exact HBE.out.symm, HSUB7.out, HND7.out, by rw [HRV.out]; exact HRA8.out, HON8.out⟩
                  case measure => exact (Nat.lt_of_le_of_lt (Nat.le_of_eq (arange_left HRA8.out)) HLT.out)
     | some cc =>
       obtain ⟨ck, cr⟩ := cc
       simp only [nextT, answN] at HCM
       go_enter Tryz.func50, Tryz.ntmps50
       go_wp2_with fail
       refine HCM.out.mono ?_
       rintro e W1 ⟨rfl, hb1⟩
       have HB1 := Lib.hid hb1
       have hlk := HLK.out W1 hb1
       have c4 := cell_at (i := 4) (v := .map (some kk.mb)) (heap_below hb1 (lt_of_block HROW.out) HROW.out) rfl
       clear hb1
       have ho1 := HO.out.only (Only.of_below (S := []) HB1.out) (fun _ _ hm => by cases hm)
       have d1 := cell_at (i := 1) (v := .map (some o.kb)) ho1.row rfl
       have HO1 := Lib.hid ho1
       clear ho1
       go_wp2_with (refine wpList_arange rfl _ rfl Tryz.underlying201 HO1.out.keys rfl ?_)
       intro W2 hr2 hg2 _
       have HR2 := Lib.hid hr2
       have HO2 := Lib.hid ((Only.refl [W1.heap.size] W1).grown hg2 (fun k hk => by cases hk))
       have HKN := Lib.hid (amap_nodup HO1.out.keys)
       clear hr2 hg2 hlk c4 d1
       go_wp2_with fail
       go_loopw [9, 10, 11] (fun ta tr te wr => ∃ (q : Option Pr) (Lz : List (By × Option By)), ta = .string ⟨(answN q).1.toArray⟩ ∧ tr = .string ⟨(answN q).2.1.toArray⟩ ∧ te = .int .i64 (answN q).2.2 ∧ q = Lz.foldl (betU k) (some (ck, cr)) ∧ (∀ p ∈ Lz, p ∈ o.x.keys) ∧ (Lz.map Prod.fst).Nodup ∧ arange wr o.kb W1.heap.size kS seenV okS o.x.keys (Lz.map Prod.fst).reverse ∧ Only [W1.heap.size] W1 wr) (fun _ _ _ wr => wr.rangeLeft o.kb W1.heap.size)
       case atStart => exact ⟨(some (ck, cr)), [], rfl, rfl, rfl, rfl, fun p hp => by (cases hp), by simp, HR2.out, HO2.out⟩
       case round =>
        obtain ⟨q, Lz, rfl, rfl, rfl, hq, hsub, hnd, hra, hon⟩ := hrel
        have HQ := Lib.hid hq
        have HSUB := Lib.hid hsub
        have HND := Lib.hid hnd
        have HRA := Lib.hid hra
        have HON := Lib.hid hon
        have HLE := Lib.hid (arange_left hra)
        have HBR := Lib.hid (HB1.out.trans (hon.below HB1.out.size (fun x hx => by rw [List.mem_singleton] at hx; rw [hx]; exact HB1.out.size)))
        clear hq hsub hnd hra hon
        go_wp2_with (refine wpList_anext rfl _ rfl HRA.out rfl ?_ ?_)
        · intro hall
          have hfin : qn = q := by
           rw [HQN.out, HQ.out]
           exact (fold_all k _ HKN.out HND.out HSUB.out (fun p hp => by have := hall p.1 p.2 (by simpa using hp); simpa using this)).symm
          subst hfin
          clear hall HQ HQN HRA HLE HON HSUB HND
          cases qn with
          | none =>
            simp only [answN]
            obtain ⟨W10, hst10, hz10, hb10⟩ := put_rg wr ⟨k, [], false⟩
            have HB10 := Lib.hid (HBR.out.trans (hb10.mono HBR.out.size))
            simp only [rangeN, fromR] at HL
            have HZ10 := Lib.hid hz10
            have HP10 := Lib.hid hb10
            clear hz10 hb10
            go_wp2_with fail
            refine (HFR.out W10).mono ?_
            rintro e W10b ⟨rfl, hb10b⟩
            have hz10b := heap_below hb10b (lt_of_block HZ10.out) HZ10.out
            have hst11 := storeRg_at (cs := #[.string ⟨k.toArray⟩, .string ⟨#[]⟩, .bool true]) hz10b rfl rfl (by simp [Value.oneCell'])
            have hz11 := setRow_heap W10b wr.heap.size _ #[.string ⟨k.toArray⟩, .string ⟨#[]⟩, .bool true] _ _ hz10b
            have hb11 := below_setRow ((HP10.out.mono (Nat.le_refl _)).trans (hb10b.mono HP10.out.size)) (Nat.le_refl wr.heap.size) #[.string ⟨k.toArray⟩, .string ⟨#[]⟩, .bool true]
            obtain ⟨W11, hW11⟩ : ∃ W11, W11 = W10b.setRow wr.heap.size #[.string ⟨k.toArray⟩, .string ⟨#[]⟩, .bool true] := ⟨_, rfl⟩
            rw [← hW11] at hst11 hz11 hb11
            have HB11 := Lib.hid (HBR.out.trans (hb11.mono HBR.out.size))
            have ld11 := loadRg_at hz11 rfl
            clear hz10b hz11 hb11 hb10b hst10 hW11
            by_cases he2 : e2 = 0
            · subst he2
              have HR := Lib.hid (show R = (([], [], 6), L1) by rw [hR, if_neg (by simp)]; rfl)
              clear hR
              go_wp2_with fail
              refine (HL.out W11 HB11.out).mono ?_
              rintro e W12 ⟨rfl, M2, hm2, hv2⟩
              have HM2 := Lib.hid hm2
              have HV2 := Lib.hid ((Mv.of_below HB11.out).trans hv2)
              clear hm2 hv2 ld11 hst11
              go_wp2_with fail
              go_ret3
              exact ⟨by rw [HR.out]; rfl, M2, by rw [HR.out]; exact HM2.out, HV2.out⟩
            · have HR := Lib.hid (show R = (([], [], e2), L1) by rw [hR, if_pos he2])
              have ge2 : ((e2 : Int) != 0) = true := by simpa using he2
              clear hR he2
              go_wp2_with fail
              refine (HL.out W11 HB11.out).mono ?_
              rintro e W12 ⟨rfl, M2, hm2, hv2⟩
              have HM2 := Lib.hid hm2
              have HV2 := Lib.hid ((Mv.of_below HB11.out).trans hv2)
              clear hm2 hv2 ld11 hst11
              go_wp2_with fail
              go_ret3
              exact ⟨by rw [HR.out]; rfl, M2, by rw [HR.out]; exact HM2.out, HV2.out⟩
          | some pp =>
            obtain ⟨pk, pr⟩ := pp
            simp only [answN]
            obtain ⟨W11, hst11, hz11, hb11⟩ := put_rg wr ⟨k, pk, false⟩
            have HB11 := Lib.hid (HBR.out.trans (hb11.mono HBR.out.size))
            have ld11 := loadRg_at hz11 rfl
            simp only [rangeN] at HL
            clear hz11 hb11
            by_cases he2 : e2 = 0
            · subst he2
              have HR := Lib.hid (show R = ((pk, pr, 0), L1) by rw [hR, if_neg (by simp)]; rfl)
              clear hR
              go_wp2_with fail
              refine (HL.out W11 HB11.out).mono ?_
              rintro e W12 ⟨rfl, M2, hm2, hv2⟩
              have HM2 := Lib.hid hm2
              have HV2 := Lib.hid ((Mv.of_below HB11.out).trans hv2)
              clear hm2 hv2 ld11 hst11
              go_wp2_with fail
              go_ret3
              exact ⟨by rw [HR.out]; rfl, M2, by rw [HR.out]; exact HM2.out, HV2.out⟩
            · have HR := Lib.hid (show R = (([], [], e2), L1) by rw [hR, if_pos he2])
              have ge2 : ((e2 : Int) != 0) = true := by simpa using he2
              clear hR he2
              go_wp2_with fail
              refine (HL.out W11 HB11.out).mono ?_
              rintro e W12 ⟨rfl, M2, hm2, hv2⟩
              have HM2 := Lib.hid hm2
              have HV2 := Lib.hid ((Mv.of_below HB11.out).trans hv2)
              clear hm2 hv2 ld11 hst11
              go_wp2_with fail
              go_ret3
              exact ⟨by rw [HR.out]; rfl, M2, by rw [HR.out]; exact HM2.out, HV2.out⟩
        · intro n v W7 hmem hnz0 hni hra7 hg7 hs7 hent
          have hnz : n ∉ (Lz.map Prod.fst).reverse := by simpa using hnz0
          clear hnz0
          cases v with
          | none =>
            have HRA7 := Lib.hid hra7
            have HON7 := Lib.hid (HON.out.grown hg7 (fun k hk => Or.inl (by rw [Option.some.inj hk.symm]; simp)))
            have HLT := Lib.hid (Nat.lt_of_lt_of_eq (left_less hmem hnz) HLE.out.symm)
            have HSUB7 := Lib.hid (show ∀ p ∈ Lz ++ [(n, (none : Option By))], p ∈ o.x.keys from fun p hp => by
             rcases List.mem_append.1 hp with hp | hp
             · exact HSUB.out p hp
             · rw [List.mem_singleton.1 hp]; exact hmem)
            have HND7 := Lib.hid (show ((Lz ++ [(n, (none : Option By))]).map Prod.fst).Nodup by
             rw [List.map_append, List.nodup_append]
             refine ⟨HND.out, by simp, fun a ha b hb e => ?_⟩
             simp at hb
             subst hb e
             exact hnz (by rw [List.mem_reverse]; exact ha))
            have HRV := Lib.hid (show ((Lz ++ [(n, (none : Option By))]).map Prod.fst).reverse = n :: (Lz.map Prod.fst).reverse by simp)
            have HFO := Lib.hid (show (Lz ++ [(n, (none : Option By))]).foldl (betU k) (some (ck, cr)) = betU k q (n, (none : Option By)) by rw [List.foldl_append, ← HQ.out]; rfl)
            obtain ⟨W8, hst8, hz8, hb8⟩ := put_sn W7 ((none : Option By))
            simp only [snC] at hst8 hz8
            simp only [seenV] at hent
            have HON8 := Lib.hid (HON7.out.step_below hb8)
            have HRA8 := Lib.hid (arange_keep HRA7.out (hb8.block _ (amap_lt (arange_amap HRA7.out))) (hb8.block _ (arange_lt HRA7.out)))
            clear hmem hnz hni hra7 hg7 hs7 HLE HSUB HND HRA HON
            have f0 := cell_at (i := 0) (v := .bool false) hz8 rfl
            have HBE := Lib.hid (show betU k q (n, (none : Option By)) = q from rfl)
            clear hz8 hb8
            go_wp2_with fail
            go_roundw
            case rel => exact ⟨q, Lz ++ [(n, (none : Option By))], rfl, rfl, rfl, by rw [HFO.out]; exact HBE.out.symm, HSUB7.out, HND7.out, by rw [HRV.out]; exact HRA8.out, HON8.out⟩
            case measure => exact (Nat.lt_of_le_of_lt (Nat.le_of_eq (arange_left HRA8.out)) HLT.out)
          | some r =>
            have HRA7 := Lib.hid hra7
            have HON7 := Lib.hid (HON.out.grown hg7 (fun k hk => Or.inl (by rw [Option.some.inj hk.symm]; simp)))
            have HLT := Lib.hid (Nat.lt_of_lt_of_eq (left_less hmem hnz) HLE.out.symm)
            have HSUB7 := Lib.hid (show ∀ p ∈ Lz ++ [(n, some r)], p ∈ o.x.keys from fun p hp => by
             rcases List.mem_append.1 hp with hp | hp
             · exact HSUB.out p hp
             · rw [List.mem_singleton.1 hp]; exact hmem)
            have HND7 := Lib.hid (show ((Lz ++ [(n, some r)]).map Prod.fst).Nodup by
             rw [List.map_append, List.nodup_append]
             refine ⟨HND.out, by simp, fun a ha b hb e => ?_⟩
             simp at hb
             subst hb e
             exact hnz (by rw [List.mem_reverse]; exact ha))
            have HRV := Lib.hid (show ((Lz ++ [(n, some r)]).map Prod.fst).reverse = n :: (Lz.map Prod.fst).reverse by simp)
            have HFO := Lib.hid (show (Lz ++ [(n, some r)]).foldl (betU k) (some (ck, cr)) = betU k q (n, some r) by rw [List.foldl_append, ← HQ.out]; rfl)
            obtain ⟨W8, hst8, hz8, hb8⟩ := put_sn W7 (some r)
            simp only [snC] at hst8 hz8
            simp only [seenV] at hent
            have HON8 := Lib.hid (HON7.out.step_below hb8)
            have HRA8 := Lib.hid (arange_keep HRA7.out (hb8.block _ (amap_lt (arange_amap HRA7.out))) (hb8.block _ (arange_lt HRA7.out)))
            clear hmem hnz hni hra7 hg7 hs7 HLE HSUB HND HRA HON
            have f0 := cell_at (i := 0) (v := .bool true) hz8 rfl
            have f1 := cell_at (i := 1) (v := .string ⟨r.toArray⟩) hz8 rfl
            clear hz8 hb8
            cases hkn : Op.bytesLess k n with
            | false =>
              have HBE := Lib.hid (show betU k q (n, some r) = q by unfold betU; simp [hkn])
              cases hnk : Op.bytesLess n k with
              | true =>
                go_wp2_with fail
                go_roundw
                case rel => exact ⟨q, Lz ++ [(n, some r)], rfl, rfl, rfl, by rw [HFO.out]; exact HBE.out.symm, HSUB7.out, HND7.out, by rw [HRV.out]; exact HRA8.out, HON8.out⟩
                case measure => exact (Nat.lt_of_le_of_lt (Nat.le_of_eq (arange_left HRA8.out)) HLT.out)
              | false =>
                have hek : (n == k) = true := by
                 have := gt_eq n k
                 rw [hnk, hkn] at this
                 simpa using this
                go_wp2_with fail
                go_roundw
                case rel => exact ⟨q, Lz ++ [(n, some r)], rfl, rfl, rfl, by rw [HFO.out]; exact HBE.out.symm, HSUB7.out, HND7.out, by rw [HRV.out]; exact HRA8.out, HON8.out⟩
                case measure => exact (Nat.lt_of_le_of_lt (Nat.le_of_eq (arange_left HRA8.out)) HLT.out)
            | true =>
              have hnk := ls_asym hkn
              have hek : (n == k) = false := by
               have := gt_eq n k
               rw [hnk, hkn] at this
               simpa using this
              cases q with
              | none =>
                have HBE := Lib.hid (show betU k none (n, some r) = some (n, r) by unfold betU; simp [hkn])
                simp only [answN]
                go_wp2_with fail
                go_quiet (fail)
                go_wp2_with fail
                go_roundw
                case rel => exact ⟨some (n, r), Lz ++ [(n, some r)], rfl, rfl, rfl, by rw [HFO.out]; exact HBE.out.symm, HSUB7.out, HND7.out, by rw [HRV.out]; exact arange_keep HRA8.out rfl rfl, HON8.out.drewN _⟩
                case measure => exact (Nat.lt_of_le_of_lt (Nat.le_of_eq (arange_left (arange_keep (w := W8) HRA8.out rfl rfl))) HLT.out)
              | some oo =>
                obtain ⟨ok, orr⟩ := oo
                simp only [answN]
                cases hno : Op.bytesLess n ok with
                | true =>
                  have HBE := Lib.hid (show betU k (some (ok, orr)) (n, some r) = some (n, r) by unfold betU; simp [hkn, hno])
                  go_wp2_with fail
                  go_quiet (fail)
                  go_wp2_with fail
                  go_roundw
                  case rel => exact ⟨some (n, r), Lz ++ [(n, some r)], rfl, rfl, rfl, by rw [HFO.out]; exact HBE.out.symm, HSUB7.out, HND7.out, by rw [HRV.out]; exact arange_keep HRA8.out rfl rfl, HON8.out.drewN _⟩
                  case measure => exact (Nat.lt_of_le_of_lt (Nat.le_of_eq (arange_left (arange_keep (w := W8) HRA8.out rfl rfl))) HLT.out)
                | false =>
                  have HBE := Lib.hid (show betU k (some (ok, orr)) (n, some r) = some (ok, orr) by unfold betU; simp [hkn, hno])
                  go_wp2_with fail
                  go_roundw
                  case rel => exact ⟨some (ok, orr), Lz ++ [(n, some r)], rfl, rfl, rfl, by rw [HFO.out]; exact HBE.out.symm, HSUB7.out, HND7.out, by rw [HRV.out]; exact HRA8.out, HON8.out⟩
                  case measure => exact (Nat.lt_of_le_of_lt (Nat.le_of_eq (arange_left HRA8.out)) HLT.out)
end
end

section
set_option maxRecDepth 100000
set_option maxHeartbeats 8000000
set_option linter.unusedSimpArgs false
set_option linter.unusedVariables false
open Go.RowKit Go.Sort
section
attribute [local go_sem ↓] loadSn_down storeSn_down loadAn_down storeAn_down
theorem unextN_w (w : World) (S M : List Nat) (p m : Nat) (b : Bs) (u : Un) (L : Ls) (id : Int) (k : By) (h : UM w S M p m b.val u L) (hb : BsAt w M b) (hr : Rise (b.pairs id)) (hkl : ∀ q ∈ b.pairs id, q.1.length ≤ 1000000) (hi : I64 id) (hc : CanAsk u L id (rangeN k (nxtU b.pairs u id k)) false) (hf : u.reads.length < 900000) :
 Calls Tryz.prog 16 #[.pointer (some ⟨p, 0, none⟩), .int .i64 id, .string ⟨k.toArray⟩] w fun x w' => x = .returned (.tuple (nextT (nextN b.pairs u L id k).1)) ∧ ∃ S' M', UM w' S' M' p m b.val (nextN b.pairs u L id k).2.1 (nextN b.pairs u L id k).2.2 ∧ Mv (S ++ M) w (S' ++ M') w' := by
 obtain ⟨R, hR⟩ : ∃ R, R = nextN b.pairs u L id k := ⟨_, rfl⟩
 rw [← hR]
 unfold nextN at hR
 have HG := Lib.hid (unext_w w S M p m b u L id k h hb hr hkl hi hc)
 obtain ⟨q, hq⟩ : ∃ q, q = nextU b.pairs u L id k := ⟨_, rfl⟩
 rw [← hq] at hR HG
 obtain ⟨⟨s, r, e⟩, L1⟩ := q
 simp only [nextT] at hR HG
 have HUM := Lib.hid h
 have HNO := Lib.hid (fun (W : World) (S' : List Nat) (hW : UnAt W S' p b.val (lvOf m) u) (a r : By) (e : Int) => note_w W S' p b.val (lvOf m) u 1 id k a r e hW hf)
 obtain ⟨kk, hkp, _, _, hks, hk⟩ := h.un
 subst hkp
 have HROW := Lib.hid hk.row
 have hue := hk.look id
 have HNP := Lib.hid (show kk.p ∉ M from h.dis kk.p (by rw [hks]; simp))
 have HMB := Lib.hid (show ∀ x ∈ kk.m, x ∉ M from by rw [← hks]; exact h.dis)
 have HKK := Lib.hid (fun (W : World) (hW : Only M w W) => look_os (hk.only hW HMB.out) hi)
 rw [hue] at hR
 clear hq hue h hb hr hkl hi hc hf hks hk
 cases ho : alook kk.os id with
 | none =>
   rw [ho] at hR HKK
   simp only [Option.map_none, Option.isNone_none, if_true, Option.getD_none, Option.isSome_none] at hR HKK
   have HR := Lib.hid hR
   clear hR ho
   go_enter Tryz.func16, Tryz.ntmps16
   go_wp2_with fail
   refine HG.out.mono ?_
   rintro x W3 ⟨rfl, M3, hm3, hv3⟩
   have HU3 := Lib.hid (HUM.out.mg' hm3 hv3)
   have HV3 := Lib.hid hv3
   have hlk := HKK.out W3 hv3.only
   have c4 := cell_at (i := 4) (v := .map (some kk.mb)) (hv3.only.heap HROW.out HNP.out) rfl
   clear hm3 hv3
   go_wp2_with fail
   refine (HNO.out W3 S HU3.out.un s r e).mono ?_
   rintro x W8 ⟨rfl, S8, hu8, hv8⟩
   have HU8 := Lib.hid (HU3.out.un' hu8 hv8)
   have HV8 := Lib.hid ((HV3.out.right (T := S)).trans (hv8.left (T := M3)))
   clear hu8 hv8 hlk c4
   go_wp2_with fail
   go_ret3
   exact ⟨by rw [HR.out]; rfl, S8, M3, by rw [HR.out]; exact HU8.out, HV8.out⟩
 | some o =>
   rw [ho] at hR HKK
   simp only [Option.map_some, Option.isNone_some, Bool.false_eq_true, if_false, Option.getD_some, Option.isSome_some] at hR HKK
   have HR := Lib.hid hR
   clear hR ho
   go_enter Tryz.func16, Tryz.ntmps16
   go_wp2_with fail
   refine HG.out.mono ?_
   rintro x W3 ⟨rfl, M3, hm3, hv3⟩
   have HU3 := Lib.hid (HUM.out.mg' hm3 hv3)
   have HV3 := Lib.hid hv3
   have hlk := HKK.out W3 hv3.only
   have c4 := cell_at (i := 4) (v := .map (some kk.mb)) (hv3.only.heap HROW.out HNP.out) rfl
   clear hm3 hv3
   go_wp2_with fail
   go_ret3
   exact ⟨by rw [HR.out]; rfl, S, M3, by rw [HR.out]; exact HU3.out, HV3.out.right (T := S)⟩
/-- The quiet reader of a unit, as an interface value. -/
abbrev qvOf (p : Nat) : Value := .iface 246 (.agg #[.pointer (some ⟨p, 0, none⟩)])
theorem qget_w (w : World) (S M : List Nat) (p m : Nat) (b : Bs) (u : Un) (L : Ls) (id : Int) (k : By) (h : UM w S M p m b.val u L) (hb : BsAt w M b) (hi : I64 id) (hk : k.length ≤ 1000000) (hc : CanAsk u L id (pointR k) false) :
 Calls Tryz.prog 301 #[.agg #[.pointer (some ⟨p, 0, none⟩)], .int .i64 id, .string ⟨k.toArray⟩] w fun e w' => e = .returned (.tuple (getT (getU b.pairs u L id k).1)) ∧ ∃ M', MgAt w' M' m (getU b.pairs u L id k).2 ∧ Mv M w M' w' := by
 have hz := heap_alloc_new w (.cells #[.pointer (some ⟨p, 0, none⟩)] 246)
 have hb1 := box_below0 w #[.pointer (some ⟨p, 0, none⟩)] 246
 have c0 := cell_at (i := 0) (v := .pointer (some ⟨p, 0, none⟩)) hz rfl
 have HG := Lib.hid (uget_w _ S M p m b u L id k (h.un.below hb1) (h.mg.below hb1) h.dis (hb.below hb1) hi hk hc)
 have HM := Lib.hid (Mv.of_below (S := M) hb1)
 generalize getU b.pairs u L id k = q at HG ⊢
 simp only [getT] at HG ⊢
 clear hz hb1 h hb hi hk hc
 go_enter Tryz.func301, Tryz.ntmps301
 go_wp2_with fail
 refine HG.out.mono ?_
 rintro x W3 ⟨rfl, M3, hm3, hv3⟩
 have HM3 := Lib.hid hm3
 have HV3 := Lib.hid (HM.out.trans hv3)
 clear hm3 hv3
 go_wp2_with fail
 go_ret2
 exact ⟨rfl, M3, HM3.out, HV3.out⟩
end
end

end Go.Proofs.YtcefkngblddpoaaGreatDoor

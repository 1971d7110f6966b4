/-
  Walks: the law of a log of which one copy is damaged. Condition: acts in memory.
-/
import Derived.Test.YtjpkdhnponcciaaGreatDoorCM17
namespace Go.Proofs.YtjpkdhnponcciaaGreatDoor
open Go.RowKit Go.Sort

theorem cond_lg {w W : World} {ka kb : Bk} {h : Hw} {R : List Rc} {A B : Mm} {lb : Nat} (s : OpSt w ka kb h R A B [(lb, true, true)] W) :
    Calls Tryz.prog 26 #[.pointer (some ⟨lb, 0, none⟩)] W fun e w' => e = .returned (.tuple #[.bool false, .bool false]) ∧ OpSt w ka kb h R A B [(lb, true, true)] w' :=
  bad_o s (m := lb) (p := true) (q := true) (by simp)
section
attribute [local go_sem ↓] loadLr_down storeLr_down loadAc_down storeAc_down
set_option maxRecDepth 100000 in
set_option maxHeartbeats 16000000 in
theorem law_damage (w : World) (n : Nat) (hn : n ≤ 255) (a : Option Addr) (cap : Nat) (l : List AcV) (sec : Bool) (da : Option Addr) (dc : Nat) (D : List Nat) (hA : Acts w w.heap.size a l) (hi : ∀ x ∈ l, (I64 x.kind ∧ I64 x.n) ∧ ∀ c ∈ x.l, I64 c.kind)
    (hD : D ≠ [] → ∃ b off, da = some ⟨b, off, none⟩ ∧ b < w.heap.size ∧ ∀ i (h : i < D.length), w.cell? ⟨b, off + i, none⟩ = some (.int .u8 (D[i] : Int)) ∧ D[i] ≤ 255) :
    Calls Tryz.prog 9 #[.int .u8 n, .slice a l.length cap, .bool sec, .slice da D.length dc] w fun e w' => e = .returned (.bool true) ∧ Below w.heap.size w w' := by
  have HFw := Lib.hid (few48_any 20 w w.heap.size a cap l hA (Nat.le_refl _) (by omega))
  cases hf : fewA 20 l with
  | false =>
    rw [hf] at HFw
    clear hf hA hi hD
    go_enter Tryz.func9, Tryz.ntmps9
    go_wp2_with fail
    refine HFw.out.mono ?_
    rintro e w1 ⟨rfl, hb1⟩
    have HB1 := Lib.hid hb1
    have HAw := Lib.hid (awake48_w w1)
    clear hb1
    go_wp2_with fail
    refine HAw.out.mono ?_
    rintro e w2 ⟨rfl, hb2⟩
    have HB2 := Lib.hid (HB1.out.trans (hb2.mono HB1.out.size))
    clear hb2
    go_wp2_with fail
    go_ret
    exact ⟨rfl, HB2.out⟩
  | true =>
   by_cases hdl : 60 < D.length
   · rw [hf] at HFw
     have hdI : (60 : Int) < (D.length : Int) := by omega
     clear hf hA hi hD hdl
     go_enter Tryz.func9, Tryz.ntmps9
     go_wp2_with fail
     refine HFw.out.mono ?_
     rintro e w1 ⟨rfl, hb1⟩
     have HB1 := Lib.hid hb1
     have HAw := Lib.hid (awake48_w w1)
     clear hb1
     go_wp2_with fail
     refine HAw.out.mono ?_
     rintro e w2 ⟨rfl, hb2⟩
     have HB2 := Lib.hid (HB1.out.trans (hb2.mono HB1.out.size))
     clear hb2
     go_wp2_with fail
     go_ret
     exact ⟨rfl, HB2.out⟩
   · have hdI : ¬ (60 : Int) < (D.length : Int) := by omega
     have HDl := Lib.hid (show D.length ≤ 60 by omega)
     have HD := Lib.hid hD
     clear hD hdl
     cases sec with
     | false =>
         rw [hf] at HFw
         obtain ⟨hl, hok⟩ := few_ok hf hi
         have HOk := Lib.hid hok
         have HAc := Lib.hid hA
         obtain ⟨e1, e2⟩ := size_of hn
         have hcv : IntKind.i64.wrap (n : Int) = (n : Int) := IntWalk.i64_in _ (by omega)
         have hmod := Nat.mod_lt n (show 0 < 45 by omega)
         have HPr := Lib.hid (fun W hb => pair_ab (16 + n % 45) (by omega) (by omega) w W hb)
         rw [show ((16 + n % 45 : Nat) : Int) = 16 + (n : Int) % 45 by omega] at HPr e2
         rw [show ((n % 45 : Nat) : Int) = (n : Int) % 45 by omega] at e1 e2
         generalize 16 + n % 45 = sz at HPr
         clear hf hA hi hok hmod hn
         go_enter Tryz.func9, Tryz.ntmps9
         go_wp2_with fail
         refine HFw.out.mono ?_
         rintro e w1 ⟨rfl, hb1⟩
         have HP1 := Lib.hid (HPr.out w1 hb1)
         clear hb1
         go_upto_region 3 with fail
         go_wp2_with fail
         refine HP1.out.mono ?_
         rintro e w2 ⟨lb, ka, kb, A0, B0, rfl, hst2⟩
         have HS2 := Lib.hid hst2
         clear hst2 HP1 HPr
         go_wp2_with fail
         go_loopw [52] (fun k wr => ∃ (j : Nat) (h : Hw) (R : List Rc) (A B : Mm), j ≤ l.length ∧ k = .int .i64 j ∧ LawAB w lb ka kb sz h R A B wr) (fun k _ => l.length - (intOf k).toNat)
         case atStart => exact ⟨0, _, _, _, _, by omega, rfl, HS2.out⟩
         case round =>
           obtain ⟨j, h, R, A, B, hj, rfl, hst⟩ := hrel
           have HS := Lib.hid hst
           by_cases hlt : j < l.length
           · have jI : (j : Int) < (l.length : Int) := by omega
             obtain ⟨b, off, rfl, hbb, hat⟩ := HAc.out.get hlt
             have ld := (hat.below hst.bel hbb).load
             have hch := (HAc.out.chs _ (List.getElem_mem hlt)).1
             have hxo := HOk.out _ (List.getElem_mem hlt)
             generalize l[j] = x at ld hch hxo
             obtain ⟨w3, st3, hw3, hb3⟩ := put_ac wr x
             have HD := Lib.hid (do_ab (hst.below hb3) x hxo hch)
             have lc3 := loadAc_at hw3 rfl
             obtain ⟨xc, hxc⟩ : ∃ xc, xc = x.cs := ⟨_, rfl⟩
             rw [← hxc] at ld st3 lc3 HD
             clear hst hat hch hxo hw3 hb3 hxc hbb
             go_wp2_with fail
             refine HD.out.mono ?_
             rintro e w4 ⟨g, S, A1, B1, m, v, er, rfl, hst4, -⟩
             have HS4 := Lib.hid hst4
             clear hst4 HD ld st3 lc3
             go_wp2_with fail
             go_roundw
             case rel => exact ⟨j + 1, g, S, A1, B1, by omega, by go_num, HS4.out⟩
             case measure => simp [intOf]; omega
           · have jI : ¬ (j : Int) < (l.length : Int) := by omega
             have HWh := Lib.hid (whole_ab hst)
             have HOk := Lib.hid hst.log.ok
             clear hst
             go_wp2_with fail
             refine HWh.out.mono ?_
             rintro e w3 ⟨v3, X3, rfl, hX3, hr3, hs3, ho3⟩
             have HRc := Lib.hid hX3
             have hlt3 := hs3.lg.lt
             have hdm := hs3.dm false
             rw [show cond false B A = A from rfl, show cond false A B = B from rfl] at hdm
             have HDm := Lib.hid hdm
             have HF3 := Lib.hid (show ∀ x ∈ ka.s ++ kb.s, x < wr.heap.size from fun x hx => HS.out.lg.lt x (List.mem_append.1 hx))
             obtain ⟨a3, c3, rfl, _, _, hR3⟩ := RecsF.of_row (F := ka.s ++ kb.s) hr3 HF3.out
             have HR3 := Lib.hid hR3
             clear hX3 hr3 hs3 ho3 hlt3 hdm hR3 HWh
             go_wp2_with fail
             obtain ⟨wo, hwo⟩ : ∃ wo, wo = wr := ⟨wr, rfl⟩
             subst hwo
             go_loopw [75] (fun k wr => ∃ (i : Nat) (T : Mm), i ≤ D.length ∧ k = .int .i64 i ∧ DmAt w lb ka kb sz h R false T B wr ∧ RecsF wr (ka.s ++ kb.s) a3 X3) (fun k _ => D.length - (intOf k).toNat)
             case atStart => exact ⟨0, _, by omega, rfl, HDm.out, HR3.out⟩
             case round =>
               obtain ⟨i, T, hii, rfl, hs, hR⟩ := hrel
               have HS := Lib.hid hs
               have HR := Lib.hid hR
               by_cases hil : i < D.length
               · have iI : (i : Int) < (D.length : Int) := by omega
                 obtain ⟨b, off, rfl, hbb, hcell⟩ := HD.out (fun e => by rw [e] at hil; simp at hil)
                 obtain ⟨hc, hle⟩ := hcell i hil
                 have hcw := (hs.bel.cell (p := ⟨b, off + i, none⟩) hbb).trans hc
                 generalize D[i] = x at hc hle hcw
                 have hmt : MmAt wr ka T := hs.mT
                 have hn16 := hs.dm.ok.ok.n
                 have hTl : T.secs.length = sz := hs.ln
                 have hnz : h.n = sz := hs.n
                 obtain ⟨m, hm, hbad⟩ := hmt.bad
                 have hmod := Nat.mod_lt x (show 0 < sz by omega)
                 have HMod := Lib.hid hmod
                 have HSz := Lib.hid (show sz ≤ 4096 by omega)
                 have q0 : wr.cell? ⟨ka.p, 0, none⟩ = some (.slice (some ⟨ka.rb, 0, none⟩) sz ka.cap) := by
                   have := cell_at (i := 0) (v := .slice (some ⟨ka.rb, 0, none⟩) T.secs.length ka.cap) hmt.row rfl
                   rw [hTl] at this
                   exact this
                 have q1 : wr.cell? ⟨ka.p, 1, none⟩ = some (.map (some ka.mb)) := cell_at (i := 1) hmt.row rfl
                 have hcv : IntKind.i64.wrap (x : Int) = (x : Int) := IntWalk.i64_in _ (by omega)
                 obtain ⟨y, hy⟩ : ∃ y, y = x % sz := ⟨_, rfl⟩
                 have htm : IntKind.i64.wrap ((x : Int).tmod (sz : Int)) = (y : Int) := by
                   have e : (x : Int).tmod (sz : Int) = (y : Int) := by rw [Int.tmod_eq_emod_of_nonneg (by omega), hy]; omega
                   rw [e, IntWalk.i64_in _ (by omega)]
                 have hf3 : (x : Int) % (sz : Int) = (y : Int) := by rw [hy]; omega
                 have hf4 : (x : Int).tmod (sz : Int) = (y : Int) := by rw [Int.tmod_eq_emod_of_nonneg (by omega)]; exact hf3
                 have hf5 : IntKind.i64.wrap (y : Int) = (y : Int) := by rw [← hf4]; exact htm.trans hf4.symm
                 rw [← hy] at hmod HMod
                 have hsz : ¬ (sz : Int) = 0 := by omega
                 have hszb : ((sz : Int) == 0) = false := by simpa using hsz
                 have HM := Lib.hid (And.intro (amap_keep (w' := wr.drew) hm rfl) hbad)
                 clear hs hR hc hle hy hmt hm hbad hmod hTl hnz hn16 hii hbb hcell
                 obtain ⟨w5, hrun5, hm5, hgr, hsz5⟩ := amap_update (w := wr.drew) keyInt Tryz.underlying62 HM.out.1 (show I64 (y : Int) from i64_of (by omega) (by have := HMod.out; have := HSz.out; omega)) true
                 have d0 : wr.drew.cell? ⟨ka.p, 0, none⟩ = some (.slice (some ⟨ka.rb, 0, none⟩) sz ka.cap) := q0
                 have d1 : wr.drew.cell? ⟨ka.p, 1, none⟩ = some (.map (some ka.mb)) := q1
                 go_upto_region 20 with fail
                 go_region
                 have ho5 : Only [ka.mb] wr w5 := (Only.of_below (Below.refl _ wr)).drew.grown hgr (fun k hk => by simp at hk; subst hk; simp)
                 have HS5 := Lib.hid (HS.out.harm y HMod.out HM.out.2 hm5 ho5)
                 have HR5 := Lib.hid (HR.out.only (ho5.mono (fun k hk _ => by rw [List.mem_singleton] at hk; subst hk; simp)))
                 clear hm5 hgr hsz5 ho5 q0 q1 d0 d1
                 go_wp2_with fail
                 go_roundw
                 case rel => exact ⟨i + 1, _, by omega, by go_num, HS5.out, HR5.out⟩
                 case measure => simp [intOf]; omega
               · have iI : ¬ (i : Int) < (D.length : Int) := by omega
                 have HRd := Lib.hid (read_d hs)
                 clear hs hR
                 go_wp2_with fail
                 refine HRd.out.mono ?_
                 rintro e w6 ⟨v6, X6, T6, rfl, hX6, hr6, hs6, ho6⟩
                 have hR3 := HR.out.only ho6
                 obtain ⟨a6, c6, rfl, _, _, hR6⟩ := RecsF.of_row (F := []) hr6 (fun x hx => by cases hx)
                 have k1 := HOk.out.small HRc.out
                 have k2 := HOk.out.small hX6
                 have HRcs := records_any w6 a6 a3 c6 c3 X6 X3 hR6.at' hR3.at' k2.1 k1.1 k2.2 k1.2
                 rw [HRc.out, hX6, (eqRcs_iff R R).2 rfl] at HRcs
                 have HRcs := Lib.hid HRcs
                 have HS6 := Lib.hid hs6
                 clear hX6 hr6 hs6 ho6 hR3 hR6 k1 k2 HRd
                 go_wp2_with fail
                 refine HRcs.out.mono ?_
                 rintro e w7 ⟨rfl, hb7⟩
                 have HCp := Lib.hid (copy_d (HS6.out.below hb7))
                 clear hb7 HRcs
                 go_wp2_with fail
                 refine HCp.out.mono ?_
                 rintro e w8 ⟨A8, B8, rfl, hs8⟩
                 have HS8 := Lib.hid hs8
                 have HBd := Lib.hid (cond_lg hs8)
                 clear hs8 HCp
                 go_wp2_with fail
                 refine HBd.out.mono ?_
                 rintro e w9 ⟨rfl, hs9⟩
                 have H1 := Lib.hid (open_o hs9 true false (Or.inl rfl))
                 rw [show ifC ka (pk true A8) = .iface 25 (memV ka.p) from rfl, show ifC kb (pk false B8) = .nilIface from rfl] at H1
                 clear hs9 HBd
                 go_wp2_with fail
                 refine H1.out.mono ?_
                 rintro e w10 ⟨rfl, hs10⟩
                 have HS10 := Lib.hid hs10
                 generalize w9.heap.size = m1 at HS10 hs10 ⊢
                 have HAl := Lib.hid (alike_o hs10 (m := m1) (p := true) (q := false) (m' := lb) (p' := true) (q' := true) (by simp) (by simp))
                 clear hs10 H1
                 go_wp2_with fail
                 refine HAl.out.mono ?_
                 rintro e w12 ⟨rfl, hs12⟩
                 have HS12 := Lib.hid hs12.bel
                 have HAw := Lib.hid (awake48_w w12)
                 clear hs12 HAl
                 go_wp2_with fail
                 refine HAw.out.mono ?_
                 rintro e w13 ⟨rfl, hb13⟩
                 have HB13 := Lib.hid (HS12.out.trans (hb13.mono HS12.out.size))
                 clear hb13
                 go_wp2_with fail
                 go_ret
                 exact ⟨rfl, HB13.out⟩
     | true =>
         rw [hf] at HFw
         obtain ⟨hl, hok⟩ := few_ok hf hi
         have HOk := Lib.hid hok
         have HAc := Lib.hid hA
         obtain ⟨e1, e2⟩ := size_of hn
         have hcv : IntKind.i64.wrap (n : Int) = (n : Int) := IntWalk.i64_in _ (by omega)
         have hmod := Nat.mod_lt n (show 0 < 45 by omega)
         have HPr := Lib.hid (fun W hb => pair_ab (16 + n % 45) (by omega) (by omega) w W hb)
         rw [show ((16 + n % 45 : Nat) : Int) = 16 + (n : Int) % 45 by omega] at HPr e2
         rw [show ((n % 45 : Nat) : Int) = (n : Int) % 45 by omega] at e1 e2
         generalize 16 + n % 45 = sz at HPr
         clear hf hA hi hok hmod hn
         go_enter Tryz.func9, Tryz.ntmps9
         go_wp2_with fail
         refine HFw.out.mono ?_
         rintro e w1 ⟨rfl, hb1⟩
         have HP1 := Lib.hid (HPr.out w1 hb1)
         clear hb1
         go_upto_region 3 with fail
         go_wp2_with fail
         refine HP1.out.mono ?_
         rintro e w2 ⟨lb, ka, kb, A0, B0, rfl, hst2⟩
         have HS2 := Lib.hid hst2
         clear hst2 HP1 HPr
         go_wp2_with fail
         go_loopw [52] (fun k wr => ∃ (j : Nat) (h : Hw) (R : List Rc) (A B : Mm), j ≤ l.length ∧ k = .int .i64 j ∧ LawAB w lb ka kb sz h R A B wr) (fun k _ => l.length - (intOf k).toNat)
         case atStart => exact ⟨0, _, _, _, _, by omega, rfl, HS2.out⟩
         case round =>
           obtain ⟨j, h, R, A, B, hj, rfl, hst⟩ := hrel
           have HS := Lib.hid hst
           by_cases hlt : j < l.length
           · have jI : (j : Int) < (l.length : Int) := by omega
             obtain ⟨b, off, rfl, hbb, hat⟩ := HAc.out.get hlt
             have ld := (hat.below hst.bel hbb).load
             have hch := (HAc.out.chs _ (List.getElem_mem hlt)).1
             have hxo := HOk.out _ (List.getElem_mem hlt)
             generalize l[j] = x at ld hch hxo
             obtain ⟨w3, st3, hw3, hb3⟩ := put_ac wr x
             have HD := Lib.hid (do_ab (hst.below hb3) x hxo hch)
             have lc3 := loadAc_at hw3 rfl
             obtain ⟨xc, hxc⟩ : ∃ xc, xc = x.cs := ⟨_, rfl⟩
             rw [← hxc] at ld st3 lc3 HD
             clear hst hat hch hxo hw3 hb3 hxc hbb
             go_wp2_with fail
             refine HD.out.mono ?_
             rintro e w4 ⟨g, S, A1, B1, m, v, er, rfl, hst4, -⟩
             have HS4 := Lib.hid hst4
             clear hst4 HD ld st3 lc3
             go_wp2_with fail
             go_roundw
             case rel => exact ⟨j + 1, g, S, A1, B1, by omega, by go_num, HS4.out⟩
             case measure => simp [intOf]; omega
           · have jI : ¬ (j : Int) < (l.length : Int) := by omega
             have HWh := Lib.hid (whole_ab hst)
             have HOk := Lib.hid hst.log.ok
             clear hst
             go_wp2_with fail
             refine HWh.out.mono ?_
             rintro e w3 ⟨v3, X3, rfl, hX3, hr3, hs3, ho3⟩
             have HRc := Lib.hid hX3
             have hlt3 := hs3.lg.lt
             have hdm := hs3.dm true
             rw [show cond true B A = B from rfl, show cond true A B = A from rfl] at hdm
             have HDm := Lib.hid hdm
             have HF3 := Lib.hid (show ∀ x ∈ ka.s ++ kb.s, x < wr.heap.size from fun x hx => HS.out.lg.lt x (List.mem_append.1 hx))
             obtain ⟨a3, c3, rfl, _, _, hR3⟩ := RecsF.of_row (F := ka.s ++ kb.s) hr3 HF3.out
             have HR3 := Lib.hid hR3
             clear hX3 hr3 hs3 ho3 hlt3 hdm hR3 HWh
             go_wp2_with fail
             obtain ⟨wo, hwo⟩ : ∃ wo, wo = wr := ⟨wr, rfl⟩
             subst hwo
             go_loopw [75] (fun k wr => ∃ (i : Nat) (T : Mm), i ≤ D.length ∧ k = .int .i64 i ∧ DmAt w lb ka kb sz h R true T A wr ∧ RecsF wr (ka.s ++ kb.s) a3 X3) (fun k _ => D.length - (intOf k).toNat)
             case atStart => exact ⟨0, _, by omega, rfl, HDm.out, HR3.out⟩
             case round =>
               obtain ⟨i, T, hii, rfl, hs, hR⟩ := hrel
               have HS := Lib.hid hs
               have HR := Lib.hid hR
               by_cases hil : i < D.length
               · have iI : (i : Int) < (D.length : Int) := by omega
                 obtain ⟨b, off, rfl, hbb, hcell⟩ := HD.out (fun e => by rw [e] at hil; simp at hil)
                 obtain ⟨hc, hle⟩ := hcell i hil
                 have hcw := (hs.bel.cell (p := ⟨b, off + i, none⟩) hbb).trans hc
                 generalize D[i] = x at hc hle hcw
                 have hmt : MmAt wr kb T := hs.mT
                 have hn16 := hs.dm.ok.ok.n
                 have hTl : T.secs.length = sz := hs.ln
                 have hnz : h.n = sz := hs.n
                 obtain ⟨m, hm, hbad⟩ := hmt.bad
                 have hmod := Nat.mod_lt x (show 0 < sz by omega)
                 have HMod := Lib.hid hmod
                 have HSz := Lib.hid (show sz ≤ 4096 by omega)
                 have q0 : wr.cell? ⟨kb.p, 0, none⟩ = some (.slice (some ⟨kb.rb, 0, none⟩) sz kb.cap) := by
                   have := cell_at (i := 0) (v := .slice (some ⟨kb.rb, 0, none⟩) T.secs.length kb.cap) hmt.row rfl
                   rw [hTl] at this
                   exact this
                 have q1 : wr.cell? ⟨kb.p, 1, none⟩ = some (.map (some kb.mb)) := cell_at (i := 1) hmt.row rfl
                 have hcv : IntKind.i64.wrap (x : Int) = (x : Int) := IntWalk.i64_in _ (by omega)
                 obtain ⟨y, hy⟩ : ∃ y, y = x % sz := ⟨_, rfl⟩
                 have htm : IntKind.i64.wrap ((x : Int).tmod (sz : Int)) = (y : Int) := by
                   have e : (x : Int).tmod (sz : Int) = (y : Int) := by rw [Int.tmod_eq_emod_of_nonneg (by omega), hy]; omega
                   rw [e, IntWalk.i64_in _ (by omega)]
                 have hf3 : (x : Int) % (sz : Int) = (y : Int) := by rw [hy]; omega
                 have hf4 : (x : Int).tmod (sz : Int) = (y : Int) := by rw [Int.tmod_eq_emod_of_nonneg (by omega)]; exact hf3
                 have hf5 : IntKind.i64.wrap (y : Int) = (y : Int) := by rw [← hf4]; exact htm.trans hf4.symm
                 rw [← hy] at hmod HMod
                 have hsz : ¬ (sz : Int) = 0 := by omega
                 have hszb : ((sz : Int) == 0) = false := by simpa using hsz
                 have HM := Lib.hid (And.intro (amap_keep (w' := wr.drew) hm rfl) hbad)
                 clear hs hR hc hle hy hmt hm hbad hmod hTl hnz hn16 hii hbb hcell
                 obtain ⟨w5, hrun5, hm5, hgr, hsz5⟩ := amap_update (w := wr.drew) keyInt Tryz.underlying62 HM.out.1 (show I64 (y : Int) from i64_of (by omega) (by have := HMod.out; have := HSz.out; omega)) true
                 have d0 : wr.drew.cell? ⟨kb.p, 0, none⟩ = some (.slice (some ⟨kb.rb, 0, none⟩) sz kb.cap) := q0
                 have d1 : wr.drew.cell? ⟨kb.p, 1, none⟩ = some (.map (some kb.mb)) := q1
                 go_upto_region 20 with fail
                 go_region
                 have ho5 : Only [kb.mb] wr w5 := (Only.of_below (Below.refl _ wr)).drew.grown hgr (fun k hk => by simp at hk; subst hk; simp)
                 have HS5 := Lib.hid (HS.out.harm y HMod.out HM.out.2 hm5 ho5)
                 have HR5 := Lib.hid (HR.out.only (ho5.mono (fun k hk _ => by rw [List.mem_singleton] at hk; subst hk; simp)))
                 clear hm5 hgr hsz5 ho5 q0 q1 d0 d1
                 go_wp2_with fail
                 go_roundw
                 case rel => exact ⟨i + 1, _, by omega, by go_num, HS5.out, HR5.out⟩
                 case measure => simp [intOf]; omega
               · have iI : ¬ (i : Int) < (D.length : Int) := by omega
                 have HRd := Lib.hid (read_d hs)
                 clear hs hR
                 go_wp2_with fail
                 refine HRd.out.mono ?_
                 rintro e w6 ⟨v6, X6, T6, rfl, hX6, hr6, hs6, ho6⟩
                 have hR3 := HR.out.only ho6
                 obtain ⟨a6, c6, rfl, _, _, hR6⟩ := RecsF.of_row (F := []) hr6 (fun x hx => by cases hx)
                 have k1 := HOk.out.small HRc.out
                 have k2 := HOk.out.small hX6
                 have HRcs := records_any w6 a6 a3 c6 c3 X6 X3 hR6.at' hR3.at' k2.1 k1.1 k2.2 k1.2
                 rw [HRc.out, hX6, (eqRcs_iff R R).2 rfl] at HRcs
                 have HRcs := Lib.hid HRcs
                 have HS6 := Lib.hid hs6
                 clear hX6 hr6 hs6 ho6 hR3 hR6 k1 k2 HRd
                 go_wp2_with fail
                 refine HRcs.out.mono ?_
                 rintro e w7 ⟨rfl, hb7⟩
                 have HCp := Lib.hid (copy_d (HS6.out.below hb7))
                 clear hb7 HRcs
                 go_wp2_with fail
                 refine HCp.out.mono ?_
                 rintro e w8 ⟨A8, B8, rfl, hs8⟩
                 have HS8 := Lib.hid hs8
                 have HBd := Lib.hid (cond_lg hs8)
                 clear hs8 HCp
                 go_wp2_with fail
                 refine HBd.out.mono ?_
                 rintro e w9 ⟨rfl, hs9⟩
                 have H1 := Lib.hid (open_o hs9 true false (Or.inl rfl))
                 rw [show ifC ka (pk true A8) = .iface 25 (memV ka.p) from rfl, show ifC kb (pk false B8) = .nilIface from rfl] at H1
                 clear hs9 HBd
                 go_wp2_with fail
                 refine H1.out.mono ?_
                 rintro e w10 ⟨rfl, hs10⟩
                 have HS10 := Lib.hid hs10
                 generalize w9.heap.size = m1 at HS10 hs10 ⊢
                 have H2 := Lib.hid (open_o hs10 false true (Or.inr rfl))
                 rw [show ifC ka (pk false A8) = .nilIface from rfl, show ifC kb (pk true B8) = .iface 25 (memV kb.p) from rfl] at H2
                 clear hs10 H1
                 go_wp2_with fail
                 refine H2.out.mono ?_
                 rintro e w11 ⟨rfl, hs11⟩
                 generalize w10.heap.size = m2 at hs11 ⊢
                 have HAl := Lib.hid (alike_o hs11 (m := m2) (p := false) (q := true) (m' := lb) (p' := true) (q' := true) (by simp) (by simp))
                 clear hs11 H2
                 go_wp2_with fail
                 refine HAl.out.mono ?_
                 rintro e w12 ⟨rfl, hs12⟩
                 have HS12 := Lib.hid hs12.bel
                 have HAw := Lib.hid (awake48_w w12)
                 clear hs12 HAl
                 go_wp2_with fail
                 refine HAw.out.mono ?_
                 rintro e w13 ⟨rfl, hb13⟩
                 have HB13 := Lib.hid (HS12.out.trans (hb13.mono HS12.out.size))
                 clear hb13
                 go_wp2_with fail
                 go_ret
                 exact ⟨rfl, HB13.out⟩
end
end Go.Proofs.YtjpkdhnponcciaaGreatDoor

/-
  The law WalCalls, walked. Condition: acts in memory.
-/
import Derived.Test.YtjpkdhnponcciaaGreatDoorCM15
namespace Go.Proofs.YtjpkdhnponcciaaGreatDoor
open Go.RowKit Go.Sort

section
attribute [local go_sem ↓] loadLr_down storeLr_down loadAc_down storeAc_down loadRs_down storeRs_down
set_option maxRecDepth 100000 in
set_option maxHeartbeats 16000000 in
theorem law_calls (w : World) (n : Nat) (hn : n ≤ 255) (a : Option Addr) (cap : Nat) (l : List AcV) (hA : Acts w w.heap.size a l) (hi : ∀ x ∈ l, (I64 x.kind ∧ I64 x.n) ∧ ∀ c ∈ x.l, I64 c.kind) (hz : ∀ x ∈ l, x.a = none → x.cap = 0) :
    Calls Tryz.prog 3 #[.int .u8 n, .slice a l.length cap] w fun e w' => e = .returned (.bool true) ∧ Below w.heap.size w w' := by
  have HFw := Lib.hid (few48_any 25 w w.heap.size a cap l hA (Nat.le_refl _) (by omega))
  cases hf : fewA 25 l with
  | false =>
    rw [hf] at HFw
    clear hf hA hi hz
    go_enter Tryz.func3, Tryz.ntmps3
    go_wp2_with fail
    refine HFw.out.mono ?_
    rintro e w1 ⟨rfl, hb1⟩
    have HB1 := Lib.hid hb1
    have HAw := Lib.hid (awake48_w w1)
    clear hb1
    go_wp2_with fail
    refine HAw.out.mono ?_
    rintro e w2 ⟨rfl, hb2⟩
    have HB2 := Lib.hid (HB1.out.trans (hb2.mono HB1.out.size))
    clear hb2
    go_wp2_with fail
    go_ret
    exact ⟨rfl, HB2.out⟩
  | true =>
    rw [hf] at HFw
    obtain ⟨hl, hok⟩ := few_ok hf hi
    have HLn := Lib.hid (few_len hf)
    have HOk := Lib.hid hok
    have HAc := Lib.hid hA
    have HZ := Lib.hid hz
    obtain ⟨e1, e2⟩ := size_of hn
    have hcv : IntKind.i64.wrap (n : Int) = (n : Int) := IntWalk.i64_in _ (by omega)
    have hmod := Nat.mod_lt n (show 0 < 45 by omega)
    have HPr := Lib.hid (fun W hb => pair_l (16 + n % 45) (by omega) (by omega) w W hb)
    have HNw := Lib.hid (fun W => rnew_w (16 + n % 45) (by omega) W)
    rw [show ((16 + n % 45 : Nat) : Int) = 16 + (n : Int) % 45 by omega] at HPr HNw e2
    rw [show ((n % 45 : Nat) : Int) = (n : Int) % 45 by omega] at e1 e2
    have hsz : 16 + (n : Int) % 45 - 1 = ((16 + n % 45 : Nat) : Int) - 1 := by omega
    rw [hsz] at HNw
    generalize 16 + n % 45 = sz at HPr HNw
    clear hf hA hi hok hmod hn hz hsz
    go_enter Tryz.func3, Tryz.ntmps3
    go_wp2_with fail
    refine HFw.out.mono ?_
    rintro e w1 ⟨rfl, hb1⟩
    have HP1 := Lib.hid (HPr.out w1 hb1)
    clear hb1
    go_upto_region 3 with fail
    go_wp2_with fail
    refine HP1.out.mono ?_
    rintro e w2 ⟨lb, ka, kb, rfl, hst2⟩
    have HS2 := Lib.hid hst2
    have HN2 := HNw.out w2
    clear hst2 HP1 HPr
    go_wp2_with fail
    refine HN2.mono ?_
    rintro e w3 ⟨rfl, hb3⟩
    obtain ⟨w4, st4, hw4, hb4⟩ := put_rs w3 (rsC ((sz : Int) - 1) 1 1 none 0 0) rfl (by simp [Value.oneCell'])
    have HS4 := Lib.hid (show CalSt w lb ka kb sz w3.heap.size (freshH sz) [] 1 1 none 0 [] w4 from by
      have s3 := HS2.out.below hb3
      have s4 := s3.below hb4
      refine ⟨s4, hw4, RecsF.nil _ _ _, fun _ => rfl, fun hm => ?_, fun e => ?_, s3.bel.size⟩
      · have := s3.lt _ hm; omega
      · obtain ⟨A, B, hL, L⟩ := s3.ex
        have := lt_of_block hL.row
        omega)
    clear hb3 hb4 hw4 HNw HN2
    go_wp2_with fail
    generalize w3.heap.size = sb at HS4 ⊢
    go_loopw [45] (fun k wr => ∃ (j : Nat) (h : Hw) (R : List Rc) (ra : Option Addr) (rc : Nat) (L : List Lr), j ≤ l.length ∧ k = .int .i64 j ∧ CalSt w lb ka kb sz sb h R h.first h.next ra rc L wr ∧ L.map Lr.rc = R) (fun k _ => l.length - (intOf k).toNat)
    case atStart => exact ⟨0, _, _, _, _, _, by omega, rfl, HS4.out, rfl⟩
    case round =>
      obtain ⟨j, h, R, ra, rc, L, hj, rfl, hst, hLR⟩ := hrel
      have HS := Lib.hid hst
      have HLR := Lib.hid hLR
      clear hLR
      by_cases hlt : j < l.length
      · have jI : (j : Int) < (l.length : Int) := by omega
        obtain ⟨b, off, rfl, hbb, hat⟩ := HAc.out.get hlt
        have ld := (hat.below hst.st.bel hbb).load
        have hch := (HAc.out.chs _ (List.getElem_mem hlt)).1
        have hxo := HOk.out _ (List.getElem_mem hlt)
        have hxz := HZ.out _ (List.getElem_mem hlt)
        have hxm := List.getElem_mem hlt
        generalize l[j] = x at ld hch hxo hxz hxm
        obtain ⟨w4, st4, hw4, hb4⟩ := put_ac wr x
        have HS4 := Lib.hid (hst.below hb4)
        have HD := Lib.hid (do_l (hst.below hb4).st x hxo hch)
        have HW4 := Lib.hid hw4
        have lc4 := loadAc_at hw4 rfl
        have HXl := Lib.hid (show wr.heap.size ∉ ka.s ++ kb.s from fun hm => by have := hst.st.lt _ hm; omega)
        have HXk := Lib.hid (And.intro hxo (And.intro hxz (And.intro hch (HLn.out _ hxm))))
        obtain ⟨xc, hxc⟩ : ∃ xc, xc = x.cs := ⟨_, rfl⟩
        rw [← hxc] at ld st4 lc4 HD
        clear hst hat hch hxo hxz hxm hw4 hb4 hxc hbb
        go_wp2_with fail
        refine HD.out.mono ?_
        rintro e w5 ⟨g, S, m, v, X, er, rfl, hst5, hd, hr, ho⟩
        have HT5 := Lib.hid (HS4.out.step hst5 ho)
        have hx5 := ho.heap HW4.out HXl.out
        have c0 : w5.cell? ⟨wr.heap.size, 0, none⟩ = some (.int .i64 x.kind) := cell_at hx5 rfl
        have c1 : w5.cell? ⟨wr.heap.size, 1, none⟩ = some (.int .i64 x.n) := cell_at hx5 rfl
        have c2 : w5.cell? ⟨wr.heap.size, 2, none⟩ = some (.int .i64 x.unit) := cell_at hx5 rfl
        have c3 : w5.cell? ⟨wr.heap.size, 3, none⟩ = some (.slice x.a x.l.length x.cap) := cell_at hx5 rfl
        obtain ⟨a5, q5, rfl, _, _, hR5⟩ := RecsF.of_row (F := sb :: (ka.s ++ kb.s)) hr HS4.out.lt
        have HR5 := Lib.hid hR5
        have HD5 := Lib.hid hd
        have ld5 := loadRs_at HT5.out.row rfl
        have hw3 := wrap_mod3 x.kind
        clear hst5 hd hr ho hx5 hR5 HD ld st4 lc4
        by_cases h1 : x.kind.tmod 3 = 1
        · obtain ⟨rfl, hX, rfl, hS, hgn, hgx⟩ := dor_trim h1 HD5.out
          have HT := Lib.hid (ctrim_l HT5.out HS.out.st.ok HLR.out x.n hS hgx)
          obtain rfl : X = [] := List.map_eq_nil_iff.1 hX
          clear hX hS hgn hgx
          go_wp2_with fail
          refine HT.out.mono ?_
          rintro e w6 ⟨v6, rfl, a6, c6, L6, rfl, hL6, hR6, hn6, hb6⟩
          obtain ⟨st7, hs7, ho7⟩ := (HT5.out.below hb6).put (f' := g.first) (x' := g.next) hR6 hn6
          have HS7 := Lib.hid hs7
          have HL7 := Lib.hid hL6
          have HG7 := Lib.hid ((HR5.out.below hb6).only (ho7.mono (fun k hk _ => by rw [List.mem_singleton] at hk; simp [hk])))
          have HW7 := Lib.hid (whole_l hs7.st)
          clear hs7 hL6 hR6 hn6 hb6 ho7
          go_wp2_with fail
          refine HW7.out.mono ?_
          rintro e w8 ⟨v8, X8, rfl, hX8, hr8, hst8, ho8⟩
          have HS8 := Lib.hid (HS7.out.step hst8 ho8)
          have HG8 := Lib.hid (HG7.out.only (ho8.mono (fun k hk _ => List.mem_cons_of_mem _ hk)))
          have HFr := Lib.hid (cfree_l HS8.out HL7.out)
          have HRc := Lib.hid (show Calls Tryz.prog 20 #[.slice a5 0 q5, .slice none 0 0] w8 fun e w' => e = .returned (.bool true) ∧ Below w8.heap.size w8 w' from recs_same w8 a5 none q5 0 [] [] HG8.out.at' (RecsF.nil w8 [] none).at' (by simp) (fun x hx => by cases hx) rfl)
          clear hst8 ho8 hX8 hr8
          go_wp2_with fail
          refine HRc.out.mono ?_
          rintro e w9 ⟨rfl, hb9⟩
          have HS9 := Lib.hid (HS8.out.below hb9)
          have ld9 := loadRs_at HS9.out.row rfl
          have k1 := cell_at (i := 1) (v := .int .i64 g.first) HS9.out.row rfl
          have k2 := cell_at (i := 2) (v := .int .i64 g.next) HS9.out.row rfl
          have HFr := Lib.hid (cfree_l HS9.out HL7.out)
          clear hb9 HRc
          go_wp2_with fail
          refine HFr.out.mono ?_
          rintro e w10 ⟨rfl, hb10⟩
          have HS10 := Lib.hid (HS9.out.below hb10)
          clear hb10 HFr ld9 k1 k2
          go_wp2_with fail
          go_roundw
          case rel => exact ⟨j + 1, _, _, _, _, _, by omega, by go_num, HS10.out, HL7.out⟩
          case measure => simp [intOf]; omega
        · by_cases h2 : x.kind.tmod 3 = 2
          · obtain ⟨rfl, hgh, hSR, her, hX⟩ := dor_read h2 HD5.out
            have HKp := Lib.hid (keep_ok HS.out.st.ok hX)
            subst hgh hSR
            have HT := Lib.hid (cread_l HT5.out HS.out.st.ok HLR.out x.n er _ her hX)
            clear her hX
            go_wp2_with fail
            refine HT.out.mono ?_
            rintro e w6 ⟨aw, cw, Xw, rfl, hXw, hRw, hb6⟩
            have HG6 := Lib.hid (HR5.out.below hb6)
            have HT6 := Lib.hid (HT5.out.below hb6)
            have HW7 := Lib.hid (whole_l HT6.out.st)
            have HXw := Lib.hid hXw
            have HRw := Lib.hid hRw
            have HL7 := Lib.hid HLR.out
            clear hb6 hRw hXw
            go_wp2_with fail
            refine HW7.out.mono ?_
            rintro e w8 ⟨v8, X8, rfl, hX8, hr8, hst8, ho8⟩
            have HS8 := Lib.hid (HT6.out.step hst8 ho8)
            have hF8 := ho8.mono (fun k hk _ => List.mem_cons_of_mem sb hk)
            have HRc := Lib.hid (recs_same w8 a5 aw q5 cw X Xw (HG6.out.only hF8).at' (HRw.out.only hF8).at' HKp.out.1 HKp.out.2 HXw.out.symm)
            clear hst8 ho8 hX8 hr8 hF8
            go_wp2_with fail
            refine HRc.out.mono ?_
            rintro e w9 ⟨rfl, hb9⟩
            have HS9 := Lib.hid (HS8.out.below hb9)
            have ld9 := loadRs_at HS9.out.row rfl
            have k1 := cell_at (i := 1) (v := .int .i64 g.first) HS9.out.row rfl
            have k2 := cell_at (i := 2) (v := .int .i64 g.next) HS9.out.row rfl
            have HFr := Lib.hid (cfree_l HS9.out HL7.out)
            clear hb9 HRc
            go_wp2_with fail
            refine HFr.out.mono ?_
            rintro e w10 ⟨rfl, hb10⟩
            have HS10 := Lib.hid (HS9.out.below hb10)
            clear hb10 HFr ld9 k1 k2
            go_wp2_with fail
            go_roundw
            case rel => exact ⟨j + 1, _, _, _, _, _, by omega, by go_num, HS10.out, HL7.out⟩
            case measure => simp [intOf]; omega
          · obtain ⟨hX, hme, hgn, hgf, hgS⟩ := dor_app h1 h2 HD5.out
            have HT := Lib.hid (capp_l HT5.out HS.out.st.ok HLR.out HS.out.st.n x.unit x.a x.cap x.l (ChsF.of_chs (HXk.out.2.2.1.below HT5.out.st.bel) HT5.out.st.bel.size (HT5.out.ge)) HXk.out.2.1 (HXk.out.2.2.2) HXk.out.1.ch m er hgf hme hgS)
            obtain rfl : X = [] := List.map_eq_nil_iff.1 hX
            clear hX hme hgn hgf hgS
            go_wp2_with fail
            refine HT.out.mono ?_
            rintro e w6 ⟨v6, rfl, a6, c6, L6, rfl, hL6, hR6, hn6, hb6⟩
            obtain ⟨st7, hs7, ho7⟩ := (HT5.out.below hb6).put (f' := g.first) (x' := g.next) hR6 hn6
            have HS7 := Lib.hid hs7
            have HL7 := Lib.hid hL6
            have HG7 := Lib.hid ((HR5.out.below hb6).only (ho7.mono (fun k hk _ => by rw [List.mem_singleton] at hk; simp [hk])))
            have HW7 := Lib.hid (whole_l hs7.st)
            clear hs7 hL6 hR6 hn6 hb6 ho7
            go_wp2_with fail
            refine HW7.out.mono ?_
            rintro e w8 ⟨v8, X8, rfl, hX8, hr8, hst8, ho8⟩
            have HS8 := Lib.hid (HS7.out.step hst8 ho8)
            have HG8 := Lib.hid (HG7.out.only (ho8.mono (fun k hk _ => List.mem_cons_of_mem _ hk)))
            have HFr := Lib.hid (cfree_l HS8.out HL7.out)
            have HRc := Lib.hid (show Calls Tryz.prog 20 #[.slice a5 0 q5, .slice none 0 0] w8 fun e w' => e = .returned (.bool true) ∧ Below w8.heap.size w8 w' from recs_same w8 a5 none q5 0 [] [] HG8.out.at' (RecsF.nil w8 [] none).at' (by simp) (fun x hx => by cases hx) rfl)
            clear hst8 ho8 hX8 hr8
            go_wp2_with fail
            refine HRc.out.mono ?_
            rintro e w9 ⟨rfl, hb9⟩
            have HS9 := Lib.hid (HS8.out.below hb9)
            have ld9 := loadRs_at HS9.out.row rfl
            have k1 := cell_at (i := 1) (v := .int .i64 g.first) HS9.out.row rfl
            have k2 := cell_at (i := 2) (v := .int .i64 g.next) HS9.out.row rfl
            have HFr := Lib.hid (cfree_l HS9.out HL7.out)
            clear hb9 HRc
            go_wp2_with fail
            refine HFr.out.mono ?_
            rintro e w10 ⟨rfl, hb10⟩
            have HS10 := Lib.hid (HS9.out.below hb10)
            clear hb10 HFr ld9 k1 k2
            go_wp2_with fail
            go_roundw
            case rel => exact ⟨j + 1, _, _, _, _, _, by omega, by go_num, HS10.out, HL7.out⟩
            case measure => simp [intOf]; omega
      · have jI : ¬ (j : Int) < (l.length : Int) := by omega
        have HAw := Lib.hid (awake48_w wr)
        have HB := Lib.hid hst.st.bel
        clear hst
        go_wp2_with fail
        refine HAw.out.mono ?_
        rintro e w7 ⟨rfl, hb7⟩
        have HB7 := Lib.hid (HB.out.trans (hb7.mono HB.out.size))
        clear hb7
        go_wp2_with fail
        go_ret
        exact ⟨rfl, HB7.out⟩
end
end Go.Proofs.YtjpkdhnponcciaaGreatDoor

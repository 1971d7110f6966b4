/-
  The law WalNumbers, walked. Condition: acts in memory.
-/
import Derived.Test.YtjpkdhnponcciaaGreatDoorCR
namespace Go.Proofs.YtjpkdhnponcciaaGreatDoor
open Go.RowKit Go.Sort

section
attribute [local go_sem ↓] loadLr_down storeLr_down loadAc_down storeAc_down
set_option maxRecDepth 100000 in
set_option maxHeartbeats 8000000 in
theorem law_numbers (w : World) (n : Nat) (hn : n ≤ 255) (a : Option Addr) (cap : Nat) (l : List AcV) (hA : Acts w w.heap.size a l) (hi : ∀ x ∈ l, (I64 x.kind ∧ I64 x.n) ∧ ∀ c ∈ x.l, I64 c.kind) :
    Calls Tryz.prog 4 #[.int .u8 n, .slice a l.length cap] w fun e w' => e = .returned (.bool true) ∧ Below w.heap.size w w' := by
  have HFw := Lib.hid (few48_any 30 w w.heap.size a cap l hA (Nat.le_refl _) (by omega))
  cases hf : fewA 30 l with
  | false =>
    rw [hf] at HFw
    clear hf hA hi
    go_enter Tryz.func4, Tryz.ntmps4
    go_wp2_with fail
    refine HFw.out.mono ?_
    rintro e w1 ⟨rfl, hb1⟩
    have HB1 := Lib.hid hb1
    have HAw := Lib.hid (awake48_w w1)
    clear hb1
    go_wp2_with fail
    refine HAw.out.mono ?_
    rintro e w2 ⟨rfl, hb2⟩
    have HB2 := Lib.hid (HB1.out.trans (hb2.mono HB1.out.size))
    clear hb2
    go_wp2_with fail
    go_ret
    exact ⟨rfl, HB2.out⟩
  | true =>
    rw [hf] at HFw
    obtain ⟨hl, hok⟩ := few_ok hf hi
    have HOk := Lib.hid hok
    have HAc := Lib.hid hA
    obtain ⟨e1, e2⟩ := size_of hn
    have hcv : IntKind.i64.wrap (n : Int) = (n : Int) := IntWalk.i64_in _ (by omega)
    have hmod := Nat.mod_lt n (show 0 < 45 by omega)
    have HPr := Lib.hid (fun W hb => pair_l (16 + n % 45) (by omega) (by omega) w W hb)
    rw [show ((16 + n % 45 : Nat) : Int) = 16 + (n : Int) % 45 by omega] at HPr e2
    rw [show ((n % 45 : Nat) : Int) = (n : Int) % 45 by omega] at e1 e2
    generalize 16 + n % 45 = sz at HPr
    clear hf hA hi hok hmod hn
    go_enter Tryz.func4, Tryz.ntmps4
    go_wp2_with fail
    refine HFw.out.mono ?_
    rintro e w1 ⟨rfl, hb1⟩
    have HP1 := Lib.hid (HPr.out w1 hb1)
    clear hb1
    go_upto_region 3 with fail
    go_wp2_with fail
    refine HP1.out.mono ?_
    rintro e w2 ⟨lb, ka, kb, rfl, hst2⟩
    have HS2 := Lib.hid hst2
    clear hst2 HP1 HPr
    go_wp2_with fail
    go_loopw [36] (fun k wr => ∃ (j : Nat) (h : Hw) (R : List Rc), j ≤ l.length ∧ k = .int .i64 j ∧ LawSt w lb ka kb sz h R wr) (fun k _ => l.length - (intOf k).toNat)
    case atStart => exact ⟨0, _, _, by omega, rfl, HS2.out⟩
    case round =>
      obtain ⟨j, h, R, hj, rfl, hst⟩ := hrel
      have HS := Lib.hid hst
      by_cases hlt : j < l.length
      · have jI : (j : Int) < (l.length : Int) := by omega
        obtain ⟨b, off, rfl, hbb, hat⟩ := HAc.out.get hlt
        have ld := (hat.below hst.bel hbb).load
        have hch := (HAc.out.chs _ (List.getElem_mem hlt)).1
        have hxo := HOk.out _ (List.getElem_mem hlt)
        generalize l[j] = x at ld hch hxo
        obtain ⟨w3, st3, hw3, hb3⟩ := put_ac wr x
        have HD := Lib.hid (do_l (hst.below hb3) x hxo hch)
        have lc3 := loadAc_at hw3 rfl
        obtain ⟨xc, hxc⟩ : ∃ xc, xc = x.cs := ⟨_, rfl⟩
        rw [← hxc] at ld st3 lc3 HD
        clear hst hat hch hxo hw3 hb3 hxc hbb
        go_wp2_with fail
        refine HD.out.mono ?_
        rintro e w4 ⟨g, S, m, v, X, er, rfl, hst4, -, -, -⟩
        have HW4 := Lib.hid (whole_l hst4)
        have HOk4 := Lib.hid hst4.ok
        clear hst4 HD ld st3 lc3
        go_wp2_with fail
        refine HW4.out.mono ?_
        rintro e w5 ⟨v5, X5, rfl, hX5, hr5, hst5, -⟩
        obtain ⟨a5, c5, rfl, _, _, hR5⟩ := RecsF.of_row (F := []) hr5 (fun x hx => by cases hx)
        have HX5 := Lib.hid hX5
        have HR5 := Lib.hid hR5
        have HS5 := Lib.hid hst5
        have hfI : ¬ (g.free : Int) < 0 := by omega
        have hln : X5.length = S.length := by rw [← hX5, List.length_map]
        have HLn := Lib.hid hln
        have hx4 : X5.length ≤ 4096 := by have := HOk4.out.len; omega
        clear hX5 hr5 hR5 hst5 hln HW4
        go_wp2_with fail
        obtain ⟨wo, hwo⟩ : ∃ wo, wo = wr := ⟨wr, rfl⟩
        subst hwo
        go_loopw [59, 11] (fun k f wr => ∃ (i c : Nat), i ≤ X5.length ∧ k = .int .i64 i ∧ f = .int .i64 c ∧ Chain c (S.drop i) g.next ∧ Below w5.heap.size w5 wr) (fun k _ _ => X5.length - (intOf k).toNat)
        case atStart => exact ⟨0, g.first, by omega, rfl, rfl, HOk4.out.chain, Below.refl _ _⟩
        case round =>
          obtain ⟨i, c, hi, rfl, rfl, hc, hb⟩ := hrel
          have HB := Lib.hid hb
          by_cases hil : i < X5.length
          · have iI : (i : Int) < (X5.length : Int) := by omega
            have his : i < S.length := by have := HLn.out; omega
            obtain ⟨b5, o5, rfl, hbb5, hat5⟩ := HR5.out.at'.get hil
            have ld5 := (hat5.below hb hbb5).load
            rw [List.drop_eq_getElem_cons his] at hc
            obtain ⟨hv, hnum, hc2⟩ := hc
            have hrc : S[i] = X5[i].rc := by
              have h1 : (X5.map Lr.rc)[i]? = S[i]? := by rw [HX5.out]
              rw [List.getElem?_map, List.getElem?_eq_getElem hil, List.getElem?_eq_getElem his] at h1
              exact (Option.some.inj h1).symm
            rw [hrc] at hv hnum hc2
            have hvn := Rc.valid_num hv
            have hla := Rc.last_eq hv
            generalize X5[i] = y at ld5 hv hnum hc2 hvn hla
            obtain ⟨yn, yu, ya, yc, yl⟩ := y
            have hnum : yn = (c : Int) := hnum
            have hlen : yl.length ≠ 0 := by
              have := hvn.2.1
              show yl.length ≠ 0
              simp only [Lr.rc] at this
              omega
            have hcl : c ≤ 1099511627776 ∧ yl.length ≤ 300 := by
              have h1 := hvn.1
              have h2 := hvn.2
              simp only [Lr.rc] at h1 h2
              omega
            have hlast : (Lr.rc ⟨yn, yu, ya, yc, yl⟩).last.toNat + 1 = c + yl.length := by
              rw [hla.1]
              simp only [Lr.rc]
              omega
            rw [hlast] at hc2
            subst hnum
            obtain ⟨w6, st6, hw6, hb6⟩ := put_lr wr ⟨c, yu, ya, yc, yl⟩
            have HB6 := Lib.hid (hb.trans (hb6.mono hb.size))
            have c0 : w6.cell? ⟨wr.heap.size, 0, none⟩ = some (.int .i64 c) := cell_at hw6 rfl
            have c2 : w6.cell? ⟨wr.heap.size, 2, none⟩ = some (.slice ya yl.length yc) := cell_at hw6 rfl
            have hyl : (yl.length : Int) ≠ 0 := by omega
            have hyb : ((yl.length : Int) == 0) = false := by simpa using hyl
            have hsum : IntKind.i64.wrap ((c : Int) + (yl.length : Int)) = ((c + yl.length : Nat) : Int) := by rw [IntWalk.i64_in _ (by omega)]; omega
            have HC2 := Lib.hid hc2
            clear hb hat5 hv hvn hla hlen hcl hlast hc2 hw6 hb6 hrc his hbb5 hyl
            go_wp2_with fail
            go_roundw
            case rel => exact ⟨i + 1, c + yl.length, by omega, by go_num, rfl, HC2.out, HB6.out⟩
            case measure => simp [intOf]; omega
          · have iI : ¬ (i : Int) < (X5.length : Int) := by omega
            have hcn : c = g.next := by
              rw [List.drop_of_length_le (by have := HLn.out; omega)] at hc
              exact hc
            subst hcn
            clear hb hc
            go_wp2_with fail
            go_roundw
            case rel => exact ⟨j + 1, g, S, by omega, by go_num, HS5.out.below HB.out⟩
            case measure => simp [intOf]; omega
      · have jI : ¬ (j : Int) < (l.length : Int) := by omega
        have HAw := Lib.hid (awake48_w wr)
        have HB := Lib.hid hst.bel
        clear hst
        go_wp2_with fail
        refine HAw.out.mono ?_
        rintro e w7 ⟨rfl, hb7⟩
        have HB7 := Lib.hid (HB.out.trans (hb7.mono HB.out.size))
        clear hb7
        go_wp2_with fail
        go_ret
        exact ⟨rfl, HB7.out⟩
end
end Go.Proofs.YtjpkdhnponcciaaGreatDoor

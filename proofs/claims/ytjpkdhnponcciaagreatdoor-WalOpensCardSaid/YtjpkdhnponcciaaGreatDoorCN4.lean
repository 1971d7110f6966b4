/-
  Walks: the law of logs that are opened anew. Condition: acts in memory.
-/
import Derived.Test.YtjpkdhnponcciaaGreatDoorCM16
namespace Go.Proofs.YtjpkdhnponcciaaGreatDoor
open Go.RowKit Go.Sort

section
attribute [local go_sem ↓] loadLr_down storeLr_down loadAc_down storeAc_down
set_option maxRecDepth 100000 in
set_option maxHeartbeats 8000000 in
theorem law_opens (w : World) (n : Nat) (hn : n ≤ 255) (a : Option Addr) (cap : Nat) (l : List AcV) (hA : Acts w w.heap.size a l) (hi : ∀ x ∈ l, (I64 x.kind ∧ I64 x.n) ∧ ∀ c ∈ x.l, I64 c.kind) :
    Calls Tryz.prog 7 #[.int .u8 n, .slice a l.length cap] w fun e w' => e = .returned (.bool true) ∧ Below w.heap.size w w' := by
  have HFw := Lib.hid (few48_any 25 w w.heap.size a cap l hA (Nat.le_refl _) (by omega))
  cases hf : fewA 25 l with
  | false =>
    rw [hf] at HFw
    clear hf hA hi
    go_enter Tryz.func7, Tryz.ntmps7
    go_wp2_with fail
    refine HFw.out.mono ?_
    rintro e w1 ⟨rfl, hb1⟩
    have HB1 := Lib.hid hb1
    have HAw := Lib.hid (awake48_w w1)
    clear hb1
    go_wp2_with fail
    refine HAw.out.mono ?_
    rintro e w2 ⟨rfl, hb2⟩
    have HB2 := Lib.hid (HB1.out.trans (hb2.mono HB1.out.size))
    clear hb2
    go_wp2_with fail
    go_ret
    exact ⟨rfl, HB2.out⟩
  | true =>
    rw [hf] at HFw
    obtain ⟨hl, hok⟩ := few_ok hf hi
    have HOk := Lib.hid hok
    have HAc := Lib.hid hA
    obtain ⟨e1, e2⟩ := size_of hn
    have hcv : IntKind.i64.wrap (n : Int) = (n : Int) := IntWalk.i64_in _ (by omega)
    have hmod := Nat.mod_lt n (show 0 < 45 by omega)
    have HPr := Lib.hid (fun W hb => pair_ab (16 + n % 45) (by omega) (by omega) w W hb)
    rw [show ((16 + n % 45 : Nat) : Int) = 16 + (n : Int) % 45 by omega] at HPr e2
    rw [show ((n % 45 : Nat) : Int) = (n : Int) % 45 by omega] at e1 e2
    generalize 16 + n % 45 = sz at HPr
    clear hf hA hi hok hmod hn
    go_enter Tryz.func7, Tryz.ntmps7
    go_wp2_with fail
    refine HFw.out.mono ?_
    rintro e w1 ⟨rfl, hb1⟩
    have HP1 := Lib.hid (HPr.out w1 hb1)
    clear hb1
    go_upto_region 3 with fail
    go_wp2_with fail
    refine HP1.out.mono ?_
    rintro e w2 ⟨lb, ka, kb, A0, B0, rfl, hst2⟩
    have HS2 := Lib.hid hst2
    clear hst2 HP1 HPr
    go_wp2_with fail
    go_loopw [39] (fun k wr => ∃ (j : Nat) (h : Hw) (R : List Rc) (A B : Mm), j ≤ l.length ∧ k = .int .i64 j ∧ LawAB w lb ka kb sz h R A B wr) (fun k _ => l.length - (intOf k).toNat)
    case atStart => exact ⟨0, _, _, _, _, by omega, rfl, HS2.out⟩
    case round =>
      obtain ⟨j, h, R, A, B, hj, rfl, hst⟩ := hrel
      have HS := Lib.hid hst
      by_cases hlt : j < l.length
      · have jI : (j : Int) < (l.length : Int) := by omega
        obtain ⟨b, off, rfl, hbb, hat⟩ := HAc.out.get hlt
        have ld := (hat.below hst.bel hbb).load
        have hch := (HAc.out.chs _ (List.getElem_mem hlt)).1
        have hxo := HOk.out _ (List.getElem_mem hlt)
        generalize l[j] = x at ld hch hxo
        obtain ⟨w3, st3, hw3, hb3⟩ := put_ac wr x
        have HD := Lib.hid (do_ab (hst.below hb3) x hxo hch)
        have lc3 := loadAc_at hw3 rfl
        obtain ⟨xc, hxc⟩ : ∃ xc, xc = x.cs := ⟨_, rfl⟩
        rw [← hxc] at ld st3 lc3 HD
        clear hst hat hch hxo hw3 hb3 hxc hbb
        go_wp2_with fail
        refine HD.out.mono ?_
        rintro e w4 ⟨g, S, A1, B1, m, v, er, rfl, hst4, -⟩
        have HS4 := Lib.hid hst4
        clear hst4 HD ld st3 lc3
        go_wp2_with fail
        go_roundw
        case rel => exact ⟨j + 1, g, S, A1, B1, by omega, by go_num, HS4.out⟩
        case measure => simp [intOf]; omega
      · have jI : ¬ (j : Int) < (l.length : Int) := by omega
        have HO0 := Lib.hid hst.op
        have HN := Lib.hid (And.intro (show ifC ka (pk true A) = .iface 25 (memV ka.p) from rfl) (show ifC kb (pk true B) = .iface 25 (memV kb.p) from rfl))
        clear hst
        have H1 := Lib.hid (open_o HO0.out true true (Or.inl rfl))
        rw [HN.out.1, HN.out.2] at H1
        go_wp2_with fail
        refine H1.out.mono ?_
        rintro e w3 ⟨rfl, hs3⟩
        have HO1 := Lib.hid hs3
        have H2 := Lib.hid (open_o hs3 true false (Or.inl rfl))
        rw [HN.out.1, show ifC kb (pk false B) = .nilIface from rfl] at H2
        clear hs3 H1
        generalize wr.heap.size = m1 at HO1 H2 ⊢
        go_wp2_with fail
        refine H2.out.mono ?_
        rintro e w4 ⟨rfl, hs4⟩
        have HO2 := Lib.hid hs4
        have H3 := Lib.hid (open_o hs4 false true (Or.inr rfl))
        rw [HN.out.2, show ifC ka (pk false A) = .nilIface from rfl] at H3
        clear hs4 H2
        generalize w3.heap.size = m2 at HO2 H3 ⊢
        go_wp2_with fail
        refine H3.out.mono ?_
        rintro e w5 ⟨rfl, hs5⟩
        have HO3 := Lib.hid hs5
        clear hs5 H3
        generalize w4.heap.size = m3 at HO3 ⊢
        have HA1 := Lib.hid (fun W (s : OpSt w ka kb h R A B [(m3, false, true), (m2, true, false), (m1, true, true), (lb, true, true)] W) => alike_o s (m := lb) (p := true) (q := true) (m' := m1) (p' := true) (q' := true) (by simp) (by simp))
        have HA2 := Lib.hid (fun W (s : OpSt w ka kb h R A B [(m3, false, true), (m2, true, false), (m1, true, true), (lb, true, true)] W) => alike_o s (m := lb) (p := true) (q := true) (m' := m2) (p' := true) (q' := false) (by simp) (by simp))
        have HA3 := Lib.hid (fun W (s : OpSt w ka kb h R A B [(m3, false, true), (m2, true, false), (m1, true, true), (lb, true, true)] W) => alike_o s (m := lb) (p := true) (q := true) (m' := m3) (p' := false) (q' := true) (by simp) (by simp))
        have HB1 := Lib.hid (fun W (s : OpSt w ka kb h R A B [(m3, false, true), (m2, true, false), (m1, true, true), (lb, true, true)] W) => bad_o s (m := m1) (p := true) (q := true) (by simp))
        have HB2 := Lib.hid (fun W (s : OpSt w ka kb h R A B [(m3, false, true), (m2, true, false), (m1, true, true), (lb, true, true)] W) => bad_o s (m := m2) (p := true) (q := false) (by simp))
        go_wp2_with fail
        refine (HA1.out _ HO3.out).mono ?_
        rintro e w6 ⟨rfl, hs6⟩
        have HO6 := Lib.hid hs6
        clear hs6
        go_wp2_with fail
        refine (HA2.out _ HO6.out).mono ?_
        rintro e w7 ⟨rfl, hs7⟩
        have HO7 := Lib.hid hs7
        clear hs7
        go_wp2_with fail
        refine (HA3.out _ HO7.out).mono ?_
        rintro e w8 ⟨rfl, hs8⟩
        have HO8 := Lib.hid hs8
        clear hs8
        go_wp2_with fail
        refine (HB1.out _ HO8.out).mono ?_
        rintro e w9 ⟨rfl, hs9⟩
        have HO9 := Lib.hid hs9
        clear hs9
        go_wp2_with fail
        refine (HB2.out _ HO9.out).mono ?_
        rintro e wZ ⟨rfl, hsz⟩
        have HOZ := Lib.hid hsz
        clear hsz HA1 HA2 HA3 HB1 HB2
        have HAw := Lib.hid (awake48_w wZ)
        have HB := Lib.hid HOZ.out.bel
        go_wp2_with fail
        refine HAw.out.mono ?_
        rintro e wY ⟨rfl, hby⟩
        have HBY := Lib.hid (HB.out.trans (hby.mono HB.out.size))
        clear hby
        go_wp2_with fail
        go_ret
        exact ⟨rfl, HBY.out⟩
end
end Go.Proofs.YtjpkdhnponcciaaGreatDoor

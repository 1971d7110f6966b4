/-
  Walk: whether a content is valid, by the reference. Conditions: not too many pairs.
-/
import Derived.Test.YtcefkngblddpoaaGreatDoorG15
import Derived.Deep.RegionHeld3
import Derived.Lib.QuietBelow
namespace Go.Proofs.YtcefkngblddpoaaGreatDoor
set_option maxRecDepth 100000
set_option maxHeartbeats 8000000
open Go.RowKit Go.Sort
variable {z : Rest}
section
attribute [local go_sem ↓] loadDs_down storeDs_down
theorem r49valid_2 (w : World) (B : Nat) (a : Option Addr) (cap : Nat) (l : List Pr) (fmt len blk ap : Int) (h : Prs w B a l) (hB : B ≤ w.heap.size) (hl : l.length ≤ 900) (_hcap : l.length ≤ cap) (hvo : z.vol.length ≤ 9223372036854775807) (how : z.own.length ≤ 9223372036854775807) (hk : ∀ p ∈ l, p.1.length ≤ 100000 ∧ p.2.length ≤ 100000) :
 Calls Tryz.prog 37 #[.agg (conC z 2 fmt len blk ap a l.length cap)] w fun e w' => e = .returned (.bool (valP z 2 fmt len blk ap l)) ∧ Below w.heap.size w w' := by
 have ld := loadDs_con (heap_alloc_new w (.cells (conC z 2 fmt len blk ap a l.length cap) 48))
 obtain ⟨W1, st, hT⟩ := two_con w z 2 fmt len blk ap a l.length cap 48
 have ld1 := loadDs_at hT.ds rfl
 have c0 := cell_at (i := 0) (v := .int .i64 z.id) hT.ds rfl
 have c1 := cell_at (i := 1) (v := .int .i64 2) hT.ds rfl
 have c21 := cell_at (i := 21) (v := .int .i64 ap) hT.con rfl
 have c22 := cell_at (i := 22) (v := .slice a l.length cap) hT.con rfl
 have HT := Lib.hid hT
 have HS := Lib.hid h
 have HK := Lib.hid hk
 have HR := Lib.hid (show valP z 2 fmt len blk ap l = (((decide (1 ≤ z.id) && decide (z.id ≤ 1099511627776)) && (if (2 : Int) = 0 then dsV 2 fmt len blk else kvalP z 2 fmt len blk)) && (decide (0 ≤ ap) && decide (ap ≤ 1099511627776)) && decide (l.length ≤ 1024) && archP z 2 fmt len blk ap l && valL z 2 fmt len l) from rfl)
 have HAV := Lib.hid (r14valid_any (z := z) W1 B a cap l 2 fmt len blk ap (h.below (hT.bel.mono hB)) (Nat.le_trans hB hT.bel.size) (by omega) hvo how)
 clear hT h hk
 by_cases i1 : z.id < 1
 · have H := Lib.hid (show valP z 2 fmt len blk ap l = false by
    have e1 : decide (1 ≤ z.id) = false := by simp; omega
    rw [HR.out, e1]; rfl)
   go_enter Tryz.func37, Tryz.ntmps37
   go_wp2_with fail
   go_ret
   exact ⟨by rw [H.out]; rfl, HT.out.bel⟩
 by_cases i2 : 1099511627776 < z.id
 · have H := Lib.hid (show valP z 2 fmt len blk ap l = false by
    have e1 : decide (z.id ≤ 1099511627776) = false := by simp; omega
    rw [HR.out, e1, Bool.and_false]; rfl)
   go_enter Tryz.func37, Tryz.ntmps37
   go_wp2_with fail
   go_ret
   exact ⟨by rw [H.out]; rfl, HT.out.bel⟩
 by_cases h1 : ap < 0
 · have H := Lib.hid (show valP z 2 fmt len blk ap l = false by
    have e1 : decide (0 ≤ ap) = false := by simp; omega
    rw [HR.out, e1, Bool.false_and, Bool.and_false]; rfl)
   go_enter Tryz.func37, Tryz.ntmps37
   go_wp2_with fail
   go_ret
   exact ⟨by rw [H.out]; rfl, HT.out.bel⟩
 by_cases h2 : 1099511627776 < ap
 · have H := Lib.hid (show valP z 2 fmt len blk ap l = false by
    have e1 : decide (ap ≤ 1099511627776) = false := by simp; omega
    rw [HR.out, e1, Bool.and_false, Bool.and_false]; rfl)
   go_enter Tryz.func37, Tryz.ntmps37
   go_wp2_with fail
   go_ret
   exact ⟨by rw [H.out]; rfl, HT.out.bel⟩
 have g1 : decide (ap < 0) = false := by simpa using h1
 have g2 : decide ((1099511627776 : Int) < ap) = false := by simpa using h2
 have g3 : decide ((1024 : Int) < (l.length : Int)) = false := by simp; omega
 have g4 : decide (z.id < 1) = false := by simpa using i1
 have g5 : decide ((1099511627776 : Int) < z.id) = false := by simpa using i2
 have HIDS := Lib.hid (show (decide (1 ≤ z.id) && decide (z.id ≤ 1099511627776)) = true by simp; omega)
 have HR1 := Lib.hid (show valP z 2 fmt len blk ap l = ((if (2 : Int) = 0 then dsV 2 fmt len blk else kvalP z 2 fmt len blk) && archP z 2 fmt len blk ap l && valL z 2 fmt len l) by
  have e1 : decide (0 ≤ ap) = true := by simp; omega
  have e2 : decide (ap ≤ 1099511627776) = true := by simp; omega
  have e3 : decide (l.length ≤ 1024) = true := by simp; omega
  rw [HR.out, e1, e2, e3, HIDS.out]; simp)
 clear HR
 cases hq : archP z 2 fmt len blk ap l with
 | false =>
   rw [hq] at HAV HR1
   have H := Lib.hid (show valP z 2 fmt len blk ap l = false by rw [HR1.out, Bool.and_false]; rfl)
   clear hq
   go_enter Tryz.func37, Tryz.ntmps37
   go_wp2_with fail
   refine HAV.out.mono ?_
   rintro e w2 ⟨rfl, hb2⟩
   have HB2 := Lib.hid (HT.out.bel.trans (hb2.mono HT.out.bel.size))
   go_wp2_with fail
   go_ret
   exact ⟨by rw [H.out]; rfl, HB2.out⟩
 | true =>
   rw [hq, Bool.and_true] at HR1
   rw [hq] at HAV
   clear hq
   go_enter Tryz.func37, Tryz.ntmps37
   go_wp2_with fail
   refine HAV.out.mono ?_
   rintro e w2 ⟨rfl, hb2⟩
   have HB2 := Lib.hid (HT.out.bel.trans (hb2.mono HT.out.bel.size))
   have HB12 := Lib.hid hb2
   have hA2 := heap_below hb2 (lt_of_block HT.out.con) HT.out.con
   have hD2 := heap_below hb2 (lt_of_block HT.out.ds) HT.out.ds
   have HA2 := Lib.hid hA2
   have HD2 := Lib.hid hD2
   clear hb2 HAV ld st ld1 c0 c1 c21 c22 g1 g2 g3 g4 g5
   have d1 := cell_at (i := 1) (v := .int .i64 2) hD2 rfl
   have ld2 := loadDs_at hD2 rfl
   have HKV := Lib.hid (show Calls Tryz.prog 77 #[.agg (dsv z 2 fmt len blk)] w2 fun e w' => e = .returned (.bool (kvalP z 2 fmt len blk)) ∧ Below w2.heap.size w2 w' by rw [← rkval_eq]; exact rkvalid_any (z := z) 2 fmt len blk w2)
   clear hA2 hD2
   cases hd : kvalP z 2 fmt len blk with
   | false =>
     rw [hd] at HKV HR1
     have H := Lib.hid (show valP z 2 fmt len blk ap l = false by rw [HR1.out, if_neg (by decide)]; rfl)
     clear hd
     have e0 : ((2 : Int) == 0) = false := by simp
     go_wp2_with fail
     refine HKV.out.mono ?_
     rintro e w3 ⟨rfl, hb3⟩
     have HB3 := Lib.hid (HB2.out.trans (hb3.mono HB2.out.size))
     go_wp2_with fail
     go_ret
     exact ⟨by rw [H.out]; rfl, HB3.out⟩
   | true =>
     rw [hd] at HKV
     have HD := Lib.hid (show descP z 2 fmt len blk = true by unfold descP; rw [if_neg (by decide), hd, HIDS.out]; rfl)
     have HR2 := Lib.hid (show valP z 2 fmt len blk ap l = valL z 2 fmt len l by rw [HR1.out, if_neg (by decide), hd]; rfl)
     clear hd
     go_wp2_with fail
     refine HKV.out.mono ?_
     rintro e w3 ⟨rfl, hb3⟩
     have HB3 := Lib.hid (HB2.out.trans (hb3.mono HB2.out.size))
     have HB13 := Lib.hid (HB12.out.trans (hb3.mono HB12.out.size))
     clear hb3 HKV ld2 d1
     have hA3 := heap_below HB13.out (lt_of_block HT.out.con) HT.out.con
     have hD3 := heap_below HB13.out (lt_of_block HT.out.ds) HT.out.ds
     have HA3 := Lib.hid hA3
     have HD3 := Lib.hid hD3
     clear hA3 hD3
     go_wp2_with fail
     go_loopw [6] (fun k wr => ∃ j : Nat, j ≤ l.length ∧ k = .int .i64 j ∧ (∀ i, (hi : i < l.length) → i < j → stepP z 2 fmt len (l.take i) l[i] = true) ∧ Below w3.heap.size w3 wr) (fun k _ => l.length - (intOf k).toNat)
     case atStart => exact ⟨0, by omega, rfl, fun i _ hi => by omega, Below.refl _ _⟩
     case round =>
      obtain ⟨j, hj, rfl, hst, hb⟩ := hrel
      have HST := Lib.hid hst
      have HB := Lib.hid hb
      have HAr := Lib.hid (heap_below hb (lt_of_block HA3.out) HA3.out)
      have HDr := Lib.hid (heap_below hb (lt_of_block HD3.out) HD3.out)
      have HBT := Lib.hid (HB3.out.trans (hb.mono HB3.out.size))
      clear hst hb
      have c22r := cell_at (i := 22) (v := .slice a l.length cap) HAr.out rfl
      by_cases hlt : j < l.length
      · have hlt0 := hlt
        obtain ⟨b, off, rfl, hbb, hc1, hc2⟩ := HS.out.get hlt
        have hr1 : wr.cell? ⟨b, off + j * 2, none⟩ = some (.string ⟨l[j].1.toArray⟩) := ((HBT.out.mono hB).cell (p := ⟨b, off + j * 2, none⟩) hbb).trans hc1
        have hr2 : wr.cell? ⟨b, off + j * 2 + 1, none⟩ = some (.string ⟨l[j].2.toArray⟩) := ((HBT.out.mono hB).cell (p := ⟨b, off + j * 2 + 1, none⟩) hbb).trans hc2
        have hkj := HK.out l[j] (List.getElem_mem hlt)
        have HNO := Lib.hid (fun hs => HR2.out.trans (valL_no (z := z) (org := 2) (fmt := fmt) (len := len) hlt hs))
        have HYES := Lib.hid (fun (hs : stepP z 2 fmt len (l.take j) l[j] = true) i (hi : i < l.length) (hij : i < j + 1) => show stepP z 2 fmt len (l.take i) l[i] = true by
         rcases Nat.lt_or_ge i j with h | h
         · exact HST.out i hi h
         · obtain rfl : i = j := by omega
           exact hs)
        have HPV := Lib.hid (fun (h0 : 0 < j) => show prevOk (l.take j) l[j] = Op.bytesLess (l[j - 1]'(by omega)).1 l[j].1 by
         unfold prevOk
         rw [List.getLast?_eq_getElem?, List.length_take, Nat.min_eq_left hj, List.getElem?_eq_getElem (by rw [List.length_take]; omega)]
         simp)
        have HPV0 := Lib.hid (fun (h0 : j = 0) => show prevOk (l.take j) l[j] = true by subst h0; rfl)
        have HTL := Lib.hid (show (l.take j).length = j by rw [List.length_take]; omega)
        have HQP := Lib.hid (fun (h0 : 0 < j) => show wr.cell? ⟨b, off + (j - 1) * 2, none⟩ = some (.string ⟨(l[j - 1]'(by omega)).1.toArray⟩) by
         obtain ⟨b', off', hbo, hbb', hc1', _⟩ := HS.out.get (i := j - 1) (by omega)
         obtain ⟨rfl, rfl⟩ : b = b' ∧ off = off' := by simpa using hbo
         exact ((HBT.out.mono hB).cell (p := ⟨b, off + (j - 1) * 2, none⟩) hbb').trans hc1')
        clear hc1 hc2
        obtain ⟨p, hp⟩ : ∃ p, l[j] = p := ⟨_, rfl⟩
        have hqq := Lib.hid hp
        rw [hp] at hr1 hr2 hkj HNO HYES HPV HPV0
        clear hp
        obtain ⟨k, r⟩ := p
        simp only at hr1 hr2 hkj HNO HYES HPV HPV0
        obtain ⟨hkk, hkr⟩ := hkj
        obtain ⟨W5, hW5⟩ : ∃ W5, W5 = wr.alloc (.cells #[.string ⟨k.toArray⟩, .string ⟨r.toArray⟩] 50) := ⟨_, rfl⟩
        have HB5 := Lib.hid (show Below wr.heap.size wr W5 by rw [hW5]; exact box_below wr _ _)
        have HP5 := Lib.hid (show W5.heap[wr.heap.size]? = some (.cells #[.string ⟨k.toArray⟩, .string ⟨r.toArray⟩] 50 (0, 0)) by rw [hW5]; exact heap_alloc_new wr _)
        have HD5 := Lib.hid (heap_below HB5.out (lt_of_block HDr.out) HDr.out)
        have HA5 := Lib.hid (heap_below HB5.out (lt_of_block HAr.out) HAr.out)
        have y0 := cell_at (i := 0) (v := .string ⟨k.toArray⟩) HP5.out rfl
        have y22 := cell_at (i := 22) (v := .slice (some ⟨b, off, none⟩) l.length cap) HA5.out rfl
        have HW5 := Lib.hid hW5
        clear hW5
        by_cases hj0 : j = 0
        · have HPOK := Lib.hid (HPV0.out hj0)
          have g0 : ¬ 0 < j := by omega
          have g1 : ¬ (0 : Int) < (j : Int) := by omega
          have hj0' := Lib.hid hj0
          clear hj0
          go_wp2_with fail
          rw [← HW5.out]
          go_quiet (fail)
          have hd56 : Below wr.heap.size wr (W5.drewN nq) := below_drewN HB5.out nq
          have HP6 := Lib.hid (show (W5.drewN nq).heap[wr.heap.size]? = some (.cells #[.string ⟨k.toArray⟩, .string ⟨r.toArray⟩] 50 (0, 0)) from HP5.out)
          have HD6 := Lib.hid (show (W5.drewN nq).heap[w.heap.size + 1]? = some (.cells (dsv z 2 fmt len blk) 45 (0, 0)) from HD5.out)
          have HA6 := Lib.hid (show (W5.drewN nq).heap[w.heap.size]? = some (.cells (conC z 2 fmt len blk ap (some ⟨b, off, none⟩) l.length cap) 48 (0, 0)) from HA5.out)
          have HB6 := Lib.hid hd56
          clear hd56 y0 y22
          generalize W5.drewN nq = W6 at HP6 HD6 HA6 HB6 ⊢
          clear g0 g1
          have p06 := cell_at (i := 0) (v := .string ⟨k.toArray⟩) HP6.out rfl
          have p16 := cell_at (i := 1) (v := .string ⟨r.toArray⟩) HP6.out rfl
          have d16 := cell_at (i := 1) (v := .int .i64 2) HD6.out rfl
          have d36 := cell_at (i := 3) (v := .int .i64 len) HD6.out rfl
          have ld6 := loadDs_at HD6.out rfl
          have HA1 := Lib.hid (show alP z 2 fmt len (k, r) = (relB k && decide ((r.length : Int) = len)) by unfold alP; rw [if_neg (by decide), if_pos rfl])
          have HW := Lib.hid (show wantP 2 z.ivl.toNat (l.take j) (k, r) = k by unfold wantP; rw [if_neg (by decide), if_neg (by decide)])
          have HN := Lib.hid (fun W => rnum_any k W (by omega))
          have HND := Lib.hid (show relB k = (decide (1 ≤ numN k) && decide (numN k ≤ 65536)) from rfl)
          have HNN := Lib.hid (show (numB k).isSome = false → numN k = 0 by intro h; unfold numN; cases hq : numB k with
           | none => rfl
           | some n => rw [hq] at h; cases h)
          have hnb : numN k ≤ 1099511627776 := by
           unfold numN numB
           split
           · rename_i h; exact h.2
           · exact Nat.zero_le _
          go_wp2_with fail
          refine (HN.out W6).mono ?_
          rintro e w7 ⟨hR, rfl⟩
          unfold NumRet at hR
          subst hR
          have HBF := Lib.hid (HBT.out.trans (HB6.out.mono HBT.out.size))
          have HB37 := Lib.hid (HB.out.trans (HB6.out.mono HB.out.size))
          generalize numN k = n at HND HNN hnb ⊢
          generalize hok : (numB k).isSome = ok at HNN
          clear hok HN
          cases ok with
          | false =>
            have hn0 := HNN.out rfl
            have H := Lib.hid (HNO.out (show stepP z 2 fmt len (l.take j) (k, r) = false by unfold stepP; rw [HA1.out, HND.out, hn0]; rfl))
            clear hn0
            go_wp2_with fail
            go_ret
            exact ⟨by rw [H.out]; rfl, HBF.out⟩
          | true =>
            by_cases h1 : 1 ≤ n
            · have g1 : decide ((n : Int) < 1) = false := by simp; omega
              by_cases h2 : n ≤ 65536
              · have g2 : decide ((65536 : Int) < (n : Int)) = false := by simp; omega
                by_cases h3 : (r.length : Int) = len
                · have g3 : ((r.length : Int) == len) = true := by simp [h3]
                  have g4 : ((r.length : Int) != len) = false := by simp [h3]
                  have HSTEP := Lib.hid (show stepP z 2 fmt len (l.take j) (k, r) = true by unfold stepP; rw [HA1.out, HND.out, HPOK.out, HW.out]; simp [h1, h2, h3])
                  clear h3 h1 h2
                  go_wp2_with fail
                  go_roundw
                  case rel => exact ⟨j + 1, by omega, by go_num, HYES.out HSTEP.out, HB37.out⟩
                  case measure => simp [intOf]; omega
                · have g3 : ((r.length : Int) == len) = false := by simp [h3]
                  have g4 : ((r.length : Int) != len) = true := by simp [h3]
                  have H := Lib.hid (HNO.out (show stepP z 2 fmt len (l.take j) (k, r) = false by unfold stepP; rw [HA1.out]; simp [h3]))
                  clear h3 h1 h2
                  go_wp2_with fail
                  go_ret
                  exact ⟨by rw [H.out]; rfl, HBF.out⟩
              · have g2 : decide ((65536 : Int) < (n : Int)) = true := by simp; omega
                have H := Lib.hid (HNO.out (show stepP z 2 fmt len (l.take j) (k, r) = false by unfold stepP; rw [HA1.out, HND.out]; simp [h2]))
                clear h1 h2
                go_wp2_with fail
                go_ret
                exact ⟨by rw [H.out]; rfl, HBF.out⟩
            · have g1 : decide ((n : Int) < 1) = true := by simp; omega
              have H := Lib.hid (HNO.out (show stepP z 2 fmt len (l.take j) (k, r) = false by unfold stepP; rw [HA1.out, HND.out]; simp [h1]))
              clear h1
              go_wp2_with fail
              go_ret
              exact ⟨by rw [H.out]; rfl, HBF.out⟩
        · have g0 : 0 < j := by omega
          have g1 : (0 : Int) < (j : Int) := by omega
          have hpv := HPV.out g0
          have hqp := HQP.out g0
          have q1 : IntKind.i64.wrap ((j : Int) - 1) = ((j - 1 : Nat) : Int) := by rw [IntWalk.i64_in _ (by omega)]; omega
          have q2 : (j : Int) - 1 = ((j - 1 : Nat) : Int) := by omega
          have q3 : j - 1 < l.length := by omega
          generalize (l[j - 1]'(by omega)).1 = pk at hpv hqp
          have yp : W5.cell? ⟨b, off + (j - 1) * 2, none⟩ = some (.string ⟨pk.toArray⟩) := (HB5.out.cell (p := ⟨b, off + (j - 1) * 2, none⟩) (block_lt_of_cell hqp)).trans hqp
          clear hqp
          cases hlt2 : Op.bytesLess pk k with
          | false =>
            have H := Lib.hid (HNO.out (show stepP z 2 fmt len (l.take j) (k, r) = false by unfold stepP; rw [hpv, hlt2]; simp))
            clear hpv
            go_wp2_with fail
            rw [← HW5.out]
            go_quiet (fail)
            have hd56 : Below wr.heap.size wr (W5.drewN nq) := below_drewN HB5.out nq
            have HB6 := Lib.hid hd56
            have HBF := Lib.hid (HBT.out.trans (HB6.out.mono HBT.out.size))
            clear hd56 y0 y22
            generalize W5.drewN nq = W6 at HB6 HBF ⊢
            go_wp2_with fail
            go_ret
            exact ⟨by rw [H.out]; rfl, HBF.out⟩
          | true =>
            have HPOK := Lib.hid (hpv.trans hlt2)
            clear hpv
            go_wp2_with fail
            rw [← HW5.out]
            go_quiet (fail)
            have hd56 : Below wr.heap.size wr (W5.drewN nq) := below_drewN HB5.out nq
            have HP6 := Lib.hid (show (W5.drewN nq).heap[wr.heap.size]? = some (.cells #[.string ⟨k.toArray⟩, .string ⟨r.toArray⟩] 50 (0, 0)) from HP5.out)
            have HD6 := Lib.hid (show (W5.drewN nq).heap[w.heap.size + 1]? = some (.cells (dsv z 2 fmt len blk) 45 (0, 0)) from HD5.out)
            have HA6 := Lib.hid (show (W5.drewN nq).heap[w.heap.size]? = some (.cells (conC z 2 fmt len blk ap (some ⟨b, off, none⟩) l.length cap) 48 (0, 0)) from HA5.out)
            have HB6 := Lib.hid hd56
            clear hd56 y0 y22
            generalize W5.drewN nq = W6 at HP6 HD6 HA6 HB6 ⊢
            clear g0 g1 q1 q2 q3 hlt2 yp
            have p06 := cell_at (i := 0) (v := .string ⟨k.toArray⟩) HP6.out rfl
            have p16 := cell_at (i := 1) (v := .string ⟨r.toArray⟩) HP6.out rfl
            have d16 := cell_at (i := 1) (v := .int .i64 2) HD6.out rfl
            have d36 := cell_at (i := 3) (v := .int .i64 len) HD6.out rfl
            have ld6 := loadDs_at HD6.out rfl
            have HA1 := Lib.hid (show alP z 2 fmt len (k, r) = (relB k && decide ((r.length : Int) = len)) by unfold alP; rw [if_neg (by decide), if_pos rfl])
            have HW := Lib.hid (show wantP 2 z.ivl.toNat (l.take j) (k, r) = k by unfold wantP; rw [if_neg (by decide), if_neg (by decide)])
            have HN := Lib.hid (fun W => rnum_any k W (by omega))
            have HND := Lib.hid (show relB k = (decide (1 ≤ numN k) && decide (numN k ≤ 65536)) from rfl)
            have HNN := Lib.hid (show (numB k).isSome = false → numN k = 0 by intro h; unfold numN; cases hq : numB k with
             | none => rfl
             | some n => rw [hq] at h; cases h)
            have hnb : numN k ≤ 1099511627776 := by
             unfold numN numB
             split
             · rename_i h; exact h.2
             · exact Nat.zero_le _
            go_wp2_with fail
            refine (HN.out W6).mono ?_
            rintro e w7 ⟨hR, rfl⟩
            unfold NumRet at hR
            subst hR
            have HBF := Lib.hid (HBT.out.trans (HB6.out.mono HBT.out.size))
            have HB37 := Lib.hid (HB.out.trans (HB6.out.mono HB.out.size))
            generalize numN k = n at HND HNN hnb ⊢
            generalize hok : (numB k).isSome = ok at HNN
            clear hok HN
            cases ok with
            | false =>
              have hn0 := HNN.out rfl
              have H := Lib.hid (HNO.out (show stepP z 2 fmt len (l.take j) (k, r) = false by unfold stepP; rw [HA1.out, HND.out, hn0]; rfl))
              clear hn0
              go_wp2_with fail
              go_ret
              exact ⟨by rw [H.out]; rfl, HBF.out⟩
            | true =>
              by_cases h1 : 1 ≤ n
              · have g1 : decide ((n : Int) < 1) = false := by simp; omega
                by_cases h2 : n ≤ 65536
                · have g2 : decide ((65536 : Int) < (n : Int)) = false := by simp; omega
                  by_cases h3 : (r.length : Int) = len
                  · have g3 : ((r.length : Int) == len) = true := by simp [h3]
                    have g4 : ((r.length : Int) != len) = false := by simp [h3]
                    have HSTEP := Lib.hid (show stepP z 2 fmt len (l.take j) (k, r) = true by unfold stepP; rw [HA1.out, HND.out, HPOK.out, HW.out]; simp [h1, h2, h3])
                    clear h3 h1 h2
                    go_wp2_with fail
                    go_roundw
                    case rel => exact ⟨j + 1, by omega, by go_num, HYES.out HSTEP.out, HB37.out⟩
                    case measure => simp [intOf]; omega
                  · have g3 : ((r.length : Int) == len) = false := by simp [h3]
                    have g4 : ((r.length : Int) != len) = true := by simp [h3]
                    have H := Lib.hid (HNO.out (show stepP z 2 fmt len (l.take j) (k, r) = false by unfold stepP; rw [HA1.out]; simp [h3]))
                    clear h3 h1 h2
                    go_wp2_with fail
                    go_ret
                    exact ⟨by rw [H.out]; rfl, HBF.out⟩
                · have g2 : decide ((65536 : Int) < (n : Int)) = true := by simp; omega
                  have H := Lib.hid (HNO.out (show stepP z 2 fmt len (l.take j) (k, r) = false by unfold stepP; rw [HA1.out, HND.out]; simp [h2]))
                  clear h1 h2
                  go_wp2_with fail
                  go_ret
                  exact ⟨by rw [H.out]; rfl, HBF.out⟩
              · have g1 : decide ((n : Int) < 1) = true := by simp; omega
                have H := Lib.hid (HNO.out (show stepP z 2 fmt len (l.take j) (k, r) = false by unfold stepP; rw [HA1.out, HND.out]; simp [h1]))
                clear h1
                go_wp2_with fail
                go_ret
                exact ⟨by rw [H.out]; rfl, HBF.out⟩
      · obtain rfl : j = l.length := by omega
        have H := Lib.hid (show valP z 2 fmt len blk ap l = true by rw [HR2.out]; exact valL_yes HST.out)
        go_wp2_with fail
        go_ret
        exact ⟨by rw [H.out]; rfl, HBT.out⟩
end
end Go.Proofs.YtcefkngblddpoaaGreatDoor

/-
  Walks: what a data set with some records contains, by the program. Conditions: valid sizes, at most 900 records of allowed lengths.
  Contracts for any format: what is allowed, what is packed, by the program and by the reference. Walks: Build, by the program. Conditions: at most 900 records; a slice's capacity is a number; the table of codes is laid. Walks: Build and Format, by the program, for any description and number.
  Walks: Build and Format, by the reference. Condition: at most 900 records.
-/
import Derived.Test.YtcefkngblddpoaaGreatDoorG13
import Derived.Test.YtcefkngblddpoaaGreatDoorG11
import Derived.Test.YtcefkngblddpoaaGreatDoorG3
import Derived.Test.YtcefkngblddpoaaGreatDoorG4
import Derived.Test.YtcefkngblddpoaaGreatDoorG12
namespace Go.Proofs.YtcefkngblddpoaaGreatDoor

section
open Go.RowKit Go.Sort
variable {z : Rest}
attribute [local go_sem] ByteArray.mk_append_mk strOfNums_size
attribute [local go_sem ↓] loadDs_down
end

section
section
open Go.RowKit Go.Sort
variable {z : Rest}
theorem PackPost.cast {w w' : World} {ok : Bool} {V V' : List By} {e : Ending} (h : PackPost w ok V e w') (hV : ok = true → V = V') : PackPost w ok V' e w' :=
 ⟨fun hk => by rw [← hV hk]; exact h.good hk, h.bad, h.bel⟩
theorem rpack_any (fmt : Int) (len blk : Nat) (w : World) (B : Nat) (a : Option Addr) (cap : Nat) (l : List By) (h : Strs w B a l) (hB : B ≤ w.heap.size) (hl : l.length ≤ 40000) (hd : dsV 0 fmt len blk = true) :
 Calls Tryz.prog 126 #[.agg (dsv z 0 fmt len blk), .slice a l.length cap] w fun e w' => PackPost w (alwV fmt len l) (packV fmt len blk l) e w' := by
 rcases ds_parts hd with ⟨rfl, hv⟩ | ⟨rfl, hv⟩ | ⟨rfl, hv⟩
 · have hb : 1 ≤ (len : Int) ∧ (len : Int) ≤ 1000 ∧ (len : Int) ≤ blk ∧ (blk : Int) ≤ 1024 := by have h := hv; simp [fixV] at h; omega
   have hm : 0 < blk / len := (Nat.le_div_iff_mul_le (by omega)).2 (by omega)
   have e : fixB (blk / len) l = packV 0 len blk l := by unfold packV; rw [if_pos rfl, fixB_eq _ hm]
   rw [alw0]
   exact (rpack0_any (z := z) 0 len blk w B a cap l h hB hl hv).mono fun _ _ hp => hp.cast fun _ => e
 · have hb : 1 ≤ (len : Int) ∧ (len : Int) ≤ 1000 ∧ (len : Int) + 8 ≤ blk ∧ (blk : Int) ≤ 1024 := by have h := hv; simp [varV] at h; omega
   have e : (l.all fun r => decide (r.length ≤ len)) = true → varB blk l = packV 1 len blk l := fun ha => by
    rw [List.all_eq_true] at ha
    unfold packV; rw [if_neg (by decide), if_pos rfl, varB_eq blk len (by omega) l (fun r hr => by simpa using ha r hr)]
   rw [alw1 1 (by decide)]
   exact (rpack1_any (z := z) 0 len blk w B a cap l h hB hl hv).mono fun _ _ hp => hp.cast e
 · have e : spanA blk l = packV 2 len blk l := by unfold packV; rw [if_neg (by decide), if_neg (by decide)]
   rw [alw1 2 (by decide)]
   exact (rpack2_any (z := z) 0 2 len blk (by decide) (by decide) w B a cap l h hB hl hv).mono fun _ _ hp => hp.cast fun _ => e
end
section
open Go.RowKit Go.Sort
variable {z : Rest}
end
section
open Go.RowKit Go.Sort
variable {z : Rest}
/-- What Build gives. -/
def buildRes (org fmt len blk n : Int) (l : List By) : List (Nat × By) × Int :=
 if dsV org fmt len blk = true ∧ numV n = true then
  (if alwV fmt len l = true then (writesOf n.toNat l.length (streamOf (packV fmt len.toNat blk.toNat l)), 0) else ([], 2))
 else ([], 1)
theorem ds_pos {org fmt len blk : Int} (h : dsV org fmt len blk = true) : org = 0 ∧ 0 ≤ len ∧ 0 ≤ blk := by
 unfold dsV at h
 split at h
 · refine ⟨by assumption, ?_⟩
   split at h
   · simp [fixV] at h; omega
   · split at h
     · simp [varV] at h; omega
     · split at h
       · simp [spnV] at h; omega
       · cases h
 · cases h
end
end

section
set_option maxRecDepth 100000
set_option maxHeartbeats 4000000
open Go.RowKit Go.Sort
variable {z : Rest}
theorem rbuildOk_any (fmt : Int) (len blk n : Nat) (w : World) (B : Nat) (a : Option Addr) (cap : Nat) (l : List By) (h : Strs w B a l) (hB : B ≤ w.heap.size) (hl : l.length ≤ 40000) (hfw : (packV fmt len blk l).length ≤ 10000000) (hsm : ∀ x ∈ packV fmt len blk l, x.length ≤ 1024) (hall : (streamOf (packV fmt len blk l)).length ≤ 1000000000) (hd : dsV 0 fmt len blk = true) (hn : numV n = true) (ha : alwV fmt len l = true) :
 Calls Tryz.prog 74 #[.agg (dsv z 0 fmt len blk), .int .i64 n, .slice a l.length cap] w fun e w' => WPost w (writesOf n l.length (streamOf (packV fmt len blk l))) 0 e w' := by
 have hnn : n ≤ 1099511627776 := by simp [numV] at hn; omega
 obtain ⟨i0, hi0, hz0, hz1, hz2⟩ := info_parts infoW
 have HV := Lib.hid (fun W => rvalid_any (z := z) 0 fmt len blk W)
 have HPK := Lib.hid (fun W b1 b2 => rpack_any (z := z) fmt len blk W B a cap l b1 b2 hl hd)
 have HNV := Lib.hid (rnum_valid (n : Int))
 rw [hd] at HV
 rw [ha] at HPK
 rw [hn] at HNV
 clear hd ha hn
 generalize packV fmt len blk l = V at hfw hsm hall HPK ⊢
 have hvl := hfw
 have HSM := Lib.hid hsm
 have HST := Lib.hid (fun W BB aa cc h1 h2 => rstream_many W BB aa cc V h1 h2 (Nat.le_trans hvl (by omega)) hall (fun r hr => Nat.le_trans (HSM.out r hr) (by omega)))
 generalize streamOf V = S at hall HST ⊢
 have hsl := secA_le S.length S
 have HC := Lib.hid (fun W => rcut_any S W hall)
 rw [show secB S.length S 0 = secA S.length S by rw [secB_eq]; rfl] at HC
 have HD0 := Lib.hid (heap_alloc_new w (.cells (dsv z 0 fmt len blk) 45))
 have HB0 := Lib.hid (box_below w (dsv z 0 fmt len blk) 45)
 clear hsm
 go_enter Tryz.func74, Tryz.ntmps74
 go_wp2_with (refine wpList_load_row rfl _ _ rfl w.heap.size rfl 45 (dsv z 0 fmt len blk) (0, 0) _ HD0.out Tryz.underlying45 rfl (by rw [info_ds]; rfl) ?_)
 refine (HV.out _).mono ?_
 rintro e w1 ⟨rfl, hb1⟩
 have HD1 := Lib.hid ((hb1.block w.heap.size (lt_of_block HD0.out)).trans HD0.out)
 have HB1 := Lib.hid (HB0.out.trans (hb1.mono HB0.out.size))
 clear hb1
 go_wp2_with fail
 refine (HNV.out _).mono ?_
 rintro e _ ⟨rfl, rfl⟩
 go_wp2_with (refine wpList_load_row rfl _ _ rfl w.heap.size rfl 45 (dsv z 0 fmt len blk) (0, 0) _ HD1.out Tryz.underlying45 rfl (by rw [info_ds]; rfl) ?_)
 refine (HPK.out _ (h.below (HB1.out.mono hB)) (Nat.le_trans hB HB1.out.size)).mono ?_
 rintro e w2 hP
 obtain ⟨v, rfl, hov⟩ := hP.good rfl
 obtain ⟨va, vc, rfl, _, hVS⟩ := newsAt_of_row hov
 have HB2 := Lib.hid (HB1.out.trans (hP.bel.mono HB1.out.size))
 clear hP hov
 go_wp2_with fail
 refine (HST.out _ _ va vc hVS (Nat.le_refl _)).mono ?_
 rintro e w3 ⟨rfl, hb3⟩
 have HB3 := Lib.hid (HB2.out.trans (hb3.mono HB2.out.size))
 clear hb3 hVS
 go_wp2_with fail
 refine (rhead_any n l.length S.length _ (by omega) (by omega) (by omega)).mono ?_
 rintro e w5 ⟨rfl, hb5⟩
 have HB5 := Lib.hid (HB3.out.trans (hb5.mono HB3.out.size))
 clear hb5
 have hhd : pad (num n ++ num l.length ++ num S.length) = headB n l.length S.length := rfl
 rw [hhd]
 have hT : writesOf n l.length S = (0, headB n l.length S.length) :: wr1 1 (secA S.length S) := rfl
 generalize headB n l.length S.length = hd at hT
 have HT := Lib.hid hT
 clear hT hhd
 go_wp2_with fail
 refine (HC.out _).mono ?_
 rintro e w6 ⟨v6, rfl, ho6, hb6⟩
 generalize secA S.length S = T at hsl ho6 HT
 obtain ⟨sa, sc, rfl, hT6⟩ := strsIn_of_row ho6
 have hlit : (w5.alloc (.cells #[.int .i64 (0 : Nat), .string ⟨hd.toArray⟩] 225)).ownsRow w.heap.size 225 2 (.slice (some ⟨w5.heap.size, 0, none⟩) 1 1) 1 (flatW [(0, hd)]) :=
  World.ownsRow_lit (base := w.heap.size) (e := 225) (size := 2) w5 #[.int .i64 (0 : Nat), .string ⟨hd.toArray⟩] 1 HB5.out.size (by simp [maxLen]) rfl
 have HS := Lib.hid (show BdSt w6 w5.heap.size w.heap.size w6 ([(0, hd)] ++ wr1 1 (T.take 0)) (.slice (some ⟨w5.heap.size, 0, none⟩) 1 1) from
  ⟨Only.refl _ _, own_below hlit hb6, fun k hk => Or.inl (Option.some.inj hk).symm⟩)
 have HB6 := Lib.hid ((HB5.out.alloc HB5.out.size (.cells #[.int .i64 (0 : Nat), .string ⟨hd.toArray⟩] 225)).trans (hb6.mono (HB5.out.alloc HB5.out.size _).size))
 have HT6 := Lib.hid hT6
 clear ho6 hb6 hT6 hlit
 go_wp2_with fail
 go_loopw [11, 13] (fun o k wr => ∃ j : Nat, j ≤ T.length ∧ k = .int .i64 j ∧ BdSt w6 w5.heap.size w.heap.size wr ([(0, hd)] ++ wr1 1 (T.take j)) o) (fun _ k _ => T.length - (intOf k).toNat)
 case atStart => exact ⟨0, by omega, rfl, HS.out⟩
 case round =>
  clear HS
  obtain ⟨j, hj, rfl, hS⟩ := hrel
  have HO := Lib.hid hS.own
  by_cases hlt : j < T.length
  · obtain ⟨b, rfl, hbl, hc⟩ := hS.text HT6.out (by simp) hlt
    have hnx := wr1_take T 1 j hlt
    generalize T[j] = d at hc hnx
    have HN := Lib.hid (show [(0, hd)] ++ wr1 1 (T.take (j + 1)) = ([(0, hd)] ++ wr1 1 (T.take j)) ++ [(1 + j, d)] by rw [hnx, List.append_assoc])
    have hll : ([(0, hd)] ++ wr1 1 (T.take j)).length ≤ 1000000001 := by rw [List.length_append, wr1_length, List.length_take]; simp; omega
    have HSS := Lib.hid hS
    clear hS hnx
    generalize [(0, hd)] ++ wr1 1 (T.take j) = ws at HO HN hll HSS
    have hown := HO.out
    go_wp2_with (at_builtin; go_must (refine wpList_append_own_at _ rfl _ _ 170 rfl w.heap.size 225 i0 (.agg #[.int .i64 0, .string ByteArray.empty]) 2 24 Tryz.underlying170 hi0 hz0 hz1 hz2 rfl (by decide) _ _ _ rfl (hown.alloc _) _ 1 1 [.int .i64 (1 + (j : Int)), .string ⟨d.toArray⟩] rfl rfl ?e11 ?e21 ?e31 ?e41 ?e51 ?_))
    case e11 => exact news_at (cs := #[.int .i64 (1 + (j : Int)), .string ⟨d.toArray⟩]) (heap_alloc_new _ _)
    case e21 => simp [Value.oneCell']
    case e31 => unfold maxLen; (try simp); omega
    case e41 => (try simp); omega
    case e51 => have := HSS.out.only.size; have := HB6.out.size; simp; omega
    intro v7 w7 ho7 hg7 _ hb7
    have HZ := Lib.hid (HSS.out.step (HSS.out.only.alloc _) (1 + j, d) (by simp) (by simpa [wrC, sv] using ho7) hg7 (by simpa using hb7))
    clear ho7 hg7 hb7 hown
    go_wp2_with fail
    go_roundw
    case rel => exact ⟨j + 1, by omega, by go_num, by rw [HN.out]; exact HZ.out⟩
    case measure => simp [intOf]; omega
  · have hTl : T.take j = T := List.take_of_length_le (by omega)
    rw [hTl] at hS
    have hbf : Below w.heap.size w wr := HB6.out.trans (hS.only.below HB6.out.size (fun k hk => by simp at hk; rw [hk]; exact HB5.out.size))
    have HZ := Lib.hid hS.own
    have HBf := Lib.hid hbf
    clear hS hbf hTl HO
    go_wp2_with fail
    go_ret2
    rw [HT.out]
    exact ⟨⟨_, rfl, HZ.out⟩, HBf.out⟩
theorem rbuildBad_any (org fmt len blk n : Int) (w : World) (v : Value) (hd : dsV org fmt len blk = false ∨ (dsV org fmt len blk = true ∧ numV n = false)) :
 Calls Tryz.prog 74 #[.agg (dsv z org fmt len blk), .int .i64 n, v] w fun e w' => WPost w [] 1 e w' := by
 have HV := Lib.hid (fun W => rvalid_any (z := z) org fmt len blk W)
 have HNV := Lib.hid (rnum_valid n)
 have HD0 := Lib.hid (heap_alloc_new w (.cells (dsv z org fmt len blk) 45))
 have HB0 := Lib.hid (box_below w (dsv z org fmt len blk) 45)
 rcases hd with hd | ⟨hd, hn⟩
 · rw [hd] at HV
   clear hd HNV
   go_enter Tryz.func74, Tryz.ntmps74
   go_wp2_with (refine wpList_load_row rfl _ _ rfl w.heap.size rfl 45 (dsv z org fmt len blk) (0, 0) _ HD0.out Tryz.underlying45 rfl (by rw [info_ds]; rfl) ?_)
   refine (HV.out _).mono ?_
   rintro e w1 ⟨rfl, hb1⟩
   have HB1 := Lib.hid (HB0.out.trans (hb1.mono HB0.out.size))
   clear hb1
   go_wp2
   go_ret2
   exact WPost.none 1 HB1.out
 · rw [hd] at HV
   rw [hn] at HNV
   clear hd hn
   go_enter Tryz.func74, Tryz.ntmps74
   go_wp2_with (refine wpList_load_row rfl _ _ rfl w.heap.size rfl 45 (dsv z org fmt len blk) (0, 0) _ HD0.out Tryz.underlying45 rfl (by rw [info_ds]; rfl) ?_)
   refine (HV.out _).mono ?_
   rintro e w1 ⟨rfl, hb1⟩
   have HB1 := Lib.hid (HB0.out.trans (hb1.mono HB0.out.size))
   clear hb1
   go_wp2_with fail
   refine (HNV.out _).mono ?_
   rintro e _ ⟨rfl, rfl⟩
   go_wp2
   go_ret2
   exact WPost.none 1 HB1.out
theorem rbuildNot_any (fmt : Int) (len blk : Nat) (n : Int) (w : World) (B : Nat) (a : Option Addr) (cap : Nat) (l : List By) (h : Strs w B a l) (hB : B ≤ w.heap.size) (hl : l.length ≤ 40000) (hd : dsV 0 fmt len blk = true) (hn : numV n = true) (ha : alwV fmt len l = false) :
 Calls Tryz.prog 74 #[.agg (dsv z 0 fmt len blk), .int .i64 n, .slice a l.length cap] w fun e w' => WPost w [] 2 e w' := by
 have HV := Lib.hid (fun W => rvalid_any (z := z) 0 fmt len blk W)
 have HNV := Lib.hid (rnum_valid n)
 have HPK := Lib.hid (fun W b1 b2 => rpack_any (z := z) fmt len blk W B a cap l b1 b2 hl hd)
 have HD0 := Lib.hid (heap_alloc_new w (.cells (dsv z 0 fmt len blk) 45))
 have HB0 := Lib.hid (box_below w (dsv z 0 fmt len blk) 45)
 rw [hd] at HV
 rw [hn] at HNV
 rw [ha] at HPK
 clear hd hn ha
 go_enter Tryz.func74, Tryz.ntmps74
 go_wp2_with (refine wpList_load_row rfl _ _ rfl w.heap.size rfl 45 (dsv z 0 fmt len blk) (0, 0) _ HD0.out Tryz.underlying45 rfl (by rw [info_ds]; rfl) ?_)
 refine (HV.out _).mono ?_
 rintro e w1 ⟨rfl, hb1⟩
 have HD1 := Lib.hid ((hb1.block w.heap.size (lt_of_block HD0.out)).trans HD0.out)
 have HB1 := Lib.hid (HB0.out.trans (hb1.mono HB0.out.size))
 clear hb1
 go_wp2_with fail
 refine (HNV.out _).mono ?_
 rintro e _ ⟨rfl, rfl⟩
 go_wp2_with (refine wpList_load_row rfl _ _ rfl w.heap.size rfl 45 (dsv z 0 fmt len blk) (0, 0) _ HD1.out Tryz.underlying45 rfl (by rw [info_ds]; rfl) ?_)
 refine (HPK.out _ (h.below (HB1.out.mono hB)) (Nat.le_trans hB HB1.out.size)).mono ?_
 rintro e w2 hP
 obtain rfl := hP.bad rfl
 have HB2 := Lib.hid (HB1.out.trans (hP.bel.mono HB1.out.size))
 clear hP
 go_wp2
 go_ret2
 exact WPost.none 2 HB2.out
theorem rbuild_any (org fmt len blk n : Int) (w : World) (B : Nat) (a : Option Addr) (cap : Nat) (l : List By) (h : Strs w B a l) (hB : B ≤ w.heap.size) (hl : l.length ≤ 900) :
 Calls Tryz.prog 74 #[.agg (dsv z org fmt len blk), .int .i64 n, .slice a l.length cap] w fun e w' => WPost w (buildRes org fmt len blk n l).1 (buildRes org fmt len blk n l).2 e w' := by
 cases hd : dsV org fmt len blk
 · have e : buildRes org fmt len blk n l = ([], 1) := by unfold buildRes; rw [if_neg (by rw [hd]; simp)]
   rw [e]; exact rbuildBad_any (z := z) org fmt len blk n w _ (Or.inl hd)
 · cases hn : numV n
   · have e : buildRes org fmt len blk n l = ([], 1) := by unfold buildRes; rw [if_neg (by rw [hn]; simp)]
     rw [e]; exact rbuildBad_any (z := z) org fmt len blk n w _ (Or.inr ⟨hd, hn⟩)
   · obtain ⟨rfl, h1, h2⟩ := ds_pos hd
     obtain ⟨len', rfl⟩ := Int.eq_ofNat_of_zero_le h1
     obtain ⟨blk', rfl⟩ := Int.eq_ofNat_of_zero_le h2
     obtain ⟨n', rfl⟩ := Int.eq_ofNat_of_zero_le (show 0 ≤ n by have := hn; simp [numV] at this; omega)
     cases ha : alwV fmt len' l
     · have e : buildRes 0 fmt len' blk' n' l = ([], 2) := by unfold buildRes; rw [if_pos ⟨hd, hn⟩, if_neg (by rw [ha]; simp)]
       rw [e]; exact rbuildNot_any (z := z) fmt len' blk' n' w B a cap l h hB (by omega) hd hn ha
     · have e : buildRes 0 fmt len' blk' n' l = (writesOf n' l.length (streamOf (packV fmt len' blk' l)), 0) := by unfold buildRes; rw [if_pos ⟨hd, hn⟩, if_pos ha]; rfl
       rw [e]
       have hbd := packV_bd fmt len' blk' l hd ha hl
       exact rbuildOk_any (z := z) fmt len' blk' n' w B a cap l h hB (by omega) (Nat.le_trans hbd.few (by omega)) hbd.sml hbd.all hd hn ha
end

end Go.Proofs.YtcefkngblddpoaaGreatDoor

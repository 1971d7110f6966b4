/-
  Walks: Next and Get. Conditions: at most 300 sectors; the table of codes is laid.
-/
import Derived.Test.YthkpcalopmddpaaGreatDoorT51
import Derived.Test.YthkpcalopmddpaaGreatDoorGR
import Derived.Test.YthkpcalopmddpaaGreatDoorT41
import Derived.Test.YthkpcalopmddpaaGreatDoorGQ
namespace Go.Proofs.YthkpcalopmddpaaGreatDoor
open Go.RowKit Go.Sort
attribute [local go_sem ↓] loadDs_down loadCon_down storeCon_down

theorem str_gtr (t : TypeId) (a b : ByteArray) : binOp .gtr t (.string a) (.string b) = pure (.bool !(Op.bytesLess a.toList b.toList || a.toList == b.toList)) := by simp [binOp, Op.stringOp]
theorem str_leq (t : TypeId) (a b : ByteArray) : binOp .leq t (.string a) (.string b) = pure (.bool (Op.bytesLess a.toList b.toList || a.toList == b.toList)) := by simp [binOp, Op.stringOp]
attribute [local go_sem] str_gtr str_leq
/-- Whether a place is behind a key. -/
def gtrB (key k : By) : Bool := !(Op.bytesLess k key || k == key)
def eqlB (key k : By) : Bool := k == key
/-- The first record whose place fits. -/
def findV (p : By → Bool) : Nat → List By → Option (By × By)
  | _, [] => none
  | i, r :: l => if p (plc (1 + i)) = true then some (plc (1 + i), r) else findV p (i + 1) l
def srchV (p : By → Bool) : Except Int Con → By × By × Int
  | .error k => ([], [], k)
  | .ok c => match findV p 0 c.recs with
    | some x => (x.1, x.2, 0)
    | none => ([], [], 6)

set_option maxRecDepth 100000 in
set_option maxHeartbeats 400000 in
theorem nextc_any (k key : By) (w : World) (c : Nat) (hc : w.cell? ⟨c, 0, none⟩ = some (.string ⟨key.toArray⟩)) :
    Calls Tryz.prog 41 #[.string ⟨k.toArray⟩, .pointer (some ⟨c, 0, none⟩)] w fun e w' => e = .returned (.bool (gtrB key k)) ∧ w = w' := by
  go_enter Tryz.func41, Tryz.ntmps41
  go_wp2
  go_ret
  exact ⟨by unfold gtrB; simp, rfl⟩
set_option maxRecDepth 100000 in
set_option maxHeartbeats 400000 in
theorem getc_any (k key : By) (w : World) (c : Nat) (hc : w.cell? ⟨c, 0, none⟩ = some (.string ⟨key.toArray⟩)) :
    Calls Tryz.prog 39 #[.string ⟨k.toArray⟩, .pointer (some ⟨c, 0, none⟩)] w fun e w' => e = .returned (.bool (eqlB key k)) ∧ w = w' := by
  go_enter Tryz.func39, Tryz.ntmps39
  go_wp2
  go_ret
  exact ⟨by unfold eqlB; simp, rfl⟩

set_option maxRecDepth 100000 in
set_option maxHeartbeats 4000000 in
theorem search_next (org fmt len blk : Int) (w : World) (B : Nat) (a : Option Addr) (cap : Nat) (l : List By) (ck : Nat) (key : By) (h : Strs w B a l) (hB : B ≤ w.heap.size) (hl : l.length ≤ 300) (hk : w.cell? ⟨ck, 0, none⟩ = some (.string ⟨key.toArray⟩)) (hc0 : Codes w) :
    Calls Tryz.prog 38 #[.agg (dsv org fmt len blk), pgv a l.length cap, .func (.func 41) #[] #[.pointer (some ⟨ck, 0, none⟩)]] w fun e w' =>
      e = .returned (.tuple #[.string ⟨(srchV (gtrB key) (openV org fmt len blk l)).1.toArray⟩, .string ⟨(srchV (gtrB key) (openV org fmt len blk l)).2.1.toArray⟩, .int .i64 (srchV (gtrB key) (openV org fmt len blk l)).2.2]) ∧ Below w.heap.size w w' := by
  have HD0 := Lib.hid (heap_alloc_new w (.cells (dsv org fmt len blk) 29))
  have HB0 := Lib.hid (box_below w (dsv org fmt len blk) 29)
  have HRD := Lib.hid (fun W b1 b2 b3 => open_any org fmt len blk W B a cap l b1 b2 hl b3)
  have HER := Lib.hid (fun k (hk : openV org fmt len blk l = .error k) => openV_err hk)
  have HFW := Lib.hid (fun c (hc : openV org fmt len blk l = .ok c) => show c.recs.length ≤ 40000 from by
    unfold openV at hc
    split at hc
    · rename_i hd
      obtain ⟨rfl, h1, h2⟩ := ds_pos hd
      obtain ⟨len', rfl⟩ := Int.eq_ofNat_of_zero_le h1
      obtain ⟨blk', rfl⟩ := Int.eq_ofNat_of_zero_le h2
      have := (readV_ok hd hc).few; omega
    · cases hc)
  generalize openV org fmt len blk l = T at HRD HER HFW ⊢
  have HKC := Lib.hid hk
  have hkl := block_lt_of_cell hk
  clear hk
  have dl0 := loadDs_at HD0.out rfl
  go_enter Tryz.func38, Tryz.ntmps38
  go_wp2_with fail
  refine (HRD.out _ (h.below (HB0.out.mono hB)) (Nat.le_trans hB HB0.out.size) (hc0.below HB0.out hc0.pos)).mono ?_
  rintro e w3 hP
  have HB3 := Lib.hid (HB0.out.trans (hP.bel.mono HB0.out.size))
  obtain ⟨ap, rv, bv, s, k, rfl, hv1, hv2, hk⟩ := hP.any
  have H1 := con_one (ap := ap) (s := s) hv1 hv2
  have HK := Lib.hid hk
  have hst := storeCon_at (cs := #[.int .i64 ap, rv, bv, .string s]) (heap_alloc_new w3 (.cells coz 77)) rfl rfl H1
  obtain ⟨W4, hW4⟩ : ∃ W4, W4 = (w3.alloc (.cells coz 77)).setRow w3.heap.size #[.int .i64 ap, rv, bv, .string s] := ⟨_, rfl⟩
  have hg4 : W4.heap[w3.heap.size]? = some (.cells #[.int .i64 ap, rv, bv, .string s] 77 (0, 0)) := by rw [hW4]; exact setRow_heap _ _ _ _ _ _ (heap_alloc_new _ _)
  have c1 := cell_at (i := 1) (v := rv) hg4 rfl
  have hb34 : Below w3.heap.size w3 W4 := by rw [hW4]; exact Below.setRow (box_below _ _ _) (Nat.le_refl _) _
  have HB34 := Lib.hid hb34
  have HB4 := Lib.hid (HB3.out.trans (hb34.mono HB3.out.size))
  rw [← hW4] at hst
  clear hP hk hv1 hv2 dl0 H1 hg4 hW4 hb34
  rcases HK.out with ⟨c, rfl, rfl, rfl, rfl, h1, h2⟩ | ⟨rfl, rfl, rfl, rfl, rfl⟩
  rotate_left
  · have hk0 := HER.out k rfl
    have e1 : (k == 0) = false := by simp [hk0]
    have e2 : (k != 0) = true := by simp [hk0]
    clear HK HER HFW hk0 c1
    go_wp2_with fail
    refine bodyPost_ret3 rfl rfl rfl rfl rfl ?_
    exact ⟨rfl, HB4.out⟩
  have hfw := HFW.out c rfl
  obtain ⟨ra, rc, rfl, hrs, hrc, _⟩ := row_all h1
  have HRS := Lib.hid (hrs.below HB34.out)
  have HT := Lib.hid (show srchV (gtrB key) (.ok c) = match findV (gtrB key) 0 c.recs with | some x => (x.1, x.2, 0) | none => ([], [], 6) from rfl)
  have hs34 : w3.heap.size ≤ W4.heap.size := HB34.out.size
  clear HK HER HFW h1 h2 hrs
  generalize c.recs = R at *
  go_wp2_with fail
  go_loopw [11, 12, 13, 26] (fun _ _ _ k wr => ∃ j : Nat, j ≤ R.length ∧ k = .int .i64 j ∧ Below W4.heap.size W4 wr ∧ findV (gtrB key) 0 R = findV (gtrB key) j (R.drop j)) (fun _ _ _ k _ => R.length - (intOf k).toNat)
  case atStart => exact ⟨0, by omega, rfl, Below.refl _ _, rfl⟩
  case round =>
    obtain ⟨j, hj, rfl, hb, hF⟩ := hrel
    have HB := Lib.hid hb
    have HBW := Lib.hid (HB4.out.trans (hb.mono HB4.out.size))
    by_cases hlt : j < R.length
    · obtain ⟨b, off, rfl, hbb, hc⟩ := HRS.out.get hlt
      replace hc := (hb.cell (p := ⟨b, off + j, none⟩) (show b < W4.heap.size by omega)).trans hc
      have hkc := (HBW.out.cell hkl).trans HKC.out
      rw [List.drop_eq_getElem_cons hlt] at hF
      rw [findV] at hF
      generalize R[j] = r at hc hF
      have hp := place_any (1 + j) wr (by omega)
      rw [show ((1 + j : Nat) : Int) = 1 + (j : Int) by omega] at hp
      have HP := Lib.hid hp
      have HKK := Lib.hid (fun W hx => nextc_any (plc (1 + j)) key W ck hx)
      generalize plc (1 + j) = pk at HP HKK hF
      have HKC2 := Lib.hid hkc
      clear hb hp hkc
      cases hpv : gtrB key pk
      · rw [hpv] at hF HKK
        rw [if_neg (by simp)] at hF
        have HF := Lib.hid hF
        clear hF hpv
        go_wp2_with fail
        refine HP.out.mono ?_
        rintro e w5 ⟨rfl, hb5⟩
        have HB5 := Lib.hid (HB.out.trans (hb5.mono HB.out.size))
        have hk5 := (hb5.cell (block_lt_of_cell HKC2.out)).trans HKC2.out
        have HK5 := Lib.hid hk5
        clear hb5 hk5
        go_wp2_with fail
        refine (HKK.out w5 HK5.out).mono ?_
        rintro e _ ⟨rfl, rfl⟩
        go_wp2_with fail
        go_roundw
        case rel => exact ⟨j + 1, by omega, by go_num, HB5.out, HF.out⟩
        case measure => simp [intOf]; omega
      · rw [hpv] at hF HKK
        rw [if_pos rfl] at hF
        have HSV := Lib.hid (show srchV (gtrB key) (.ok c) = (pk, r, 0) by rw [HT.out, hF])
        clear hF hpv
        go_wp2_with fail
        refine HP.out.mono ?_
        rintro e w5 ⟨rfl, hb5⟩
        have HB5 := Lib.hid (HBW.out.trans (hb5.mono HBW.out.size))
        have hk5 := (hb5.cell (block_lt_of_cell HKC2.out)).trans HKC2.out
        have HK5 := Lib.hid hk5
        clear hb5 hk5
        go_wp2_with fail
        refine (HKK.out w5 HK5.out).mono ?_
        rintro e _ ⟨rfl, rfl⟩
        go_wp2_with fail
        refine bodyPost_ret3 rfl rfl rfl rfl rfl ?_
        rw [HSV.out]
        exact ⟨rfl, HB5.out⟩
    · rw [List.drop_eq_nil_of_le (by omega)] at hF
      have HSV := Lib.hid (show srchV (gtrB key) (.ok c) = ([], [], 6) by rw [HT.out, hF]; rfl)
      clear hF hb
      go_wp2_with fail
      refine bodyPost_ret3 rfl rfl rfl rfl rfl ?_
      rw [HSV.out]
      exact ⟨rfl, HBW.out⟩

set_option maxRecDepth 100000 in
set_option maxHeartbeats 4000000 in
theorem search_get (org fmt len blk : Int) (w : World) (B : Nat) (a : Option Addr) (cap : Nat) (l : List By) (ck : Nat) (key : By) (h : Strs w B a l) (hB : B ≤ w.heap.size) (hl : l.length ≤ 300) (hk : w.cell? ⟨ck, 0, none⟩ = some (.string ⟨key.toArray⟩)) (hc0 : Codes w) :
    Calls Tryz.prog 38 #[.agg (dsv org fmt len blk), pgv a l.length cap, .func (.func 39) #[] #[.pointer (some ⟨ck, 0, none⟩)]] w fun e w' =>
      e = .returned (.tuple #[.string ⟨(srchV (eqlB key) (openV org fmt len blk l)).1.toArray⟩, .string ⟨(srchV (eqlB key) (openV org fmt len blk l)).2.1.toArray⟩, .int .i64 (srchV (eqlB key) (openV org fmt len blk l)).2.2]) ∧ Below w.heap.size w w' := by
  have HD0 := Lib.hid (heap_alloc_new w (.cells (dsv org fmt len blk) 29))
  have HB0 := Lib.hid (box_below w (dsv org fmt len blk) 29)
  have HRD := Lib.hid (fun W b1 b2 b3 => open_any org fmt len blk W B a cap l b1 b2 hl b3)
  have HER := Lib.hid (fun k (hk : openV org fmt len blk l = .error k) => openV_err hk)
  have HFW := Lib.hid (fun c (hc : openV org fmt len blk l = .ok c) => show c.recs.length ≤ 40000 from by
    unfold openV at hc
    split at hc
    · rename_i hd
      obtain ⟨rfl, h1, h2⟩ := ds_pos hd
      obtain ⟨len', rfl⟩ := Int.eq_ofNat_of_zero_le h1
      obtain ⟨blk', rfl⟩ := Int.eq_ofNat_of_zero_le h2
      have := (readV_ok hd hc).few; omega
    · cases hc)
  generalize openV org fmt len blk l = T at HRD HER HFW ⊢
  have HKC := Lib.hid hk
  have hkl := block_lt_of_cell hk
  clear hk
  have dl0 := loadDs_at HD0.out rfl
  go_enter Tryz.func38, Tryz.ntmps38
  go_wp2_with fail
  refine (HRD.out _ (h.below (HB0.out.mono hB)) (Nat.le_trans hB HB0.out.size) (hc0.below HB0.out hc0.pos)).mono ?_
  rintro e w3 hP
  have HB3 := Lib.hid (HB0.out.trans (hP.bel.mono HB0.out.size))
  obtain ⟨ap, rv, bv, s, k, rfl, hv1, hv2, hk⟩ := hP.any
  have H1 := con_one (ap := ap) (s := s) hv1 hv2
  have HK := Lib.hid hk
  have hst := storeCon_at (cs := #[.int .i64 ap, rv, bv, .string s]) (heap_alloc_new w3 (.cells coz 77)) rfl rfl H1
  obtain ⟨W4, hW4⟩ : ∃ W4, W4 = (w3.alloc (.cells coz 77)).setRow w3.heap.size #[.int .i64 ap, rv, bv, .string s] := ⟨_, rfl⟩
  have hg4 : W4.heap[w3.heap.size]? = some (.cells #[.int .i64 ap, rv, bv, .string s] 77 (0, 0)) := by rw [hW4]; exact setRow_heap _ _ _ _ _ _ (heap_alloc_new _ _)
  have c1 := cell_at (i := 1) (v := rv) hg4 rfl
  have hb34 : Below w3.heap.size w3 W4 := by rw [hW4]; exact Below.setRow (box_below _ _ _) (Nat.le_refl _) _
  have HB34 := Lib.hid hb34
  have HB4 := Lib.hid (HB3.out.trans (hb34.mono HB3.out.size))
  rw [← hW4] at hst
  clear hP hk hv1 hv2 dl0 H1 hg4 hW4 hb34
  rcases HK.out with ⟨c, rfl, rfl, rfl, rfl, h1, h2⟩ | ⟨rfl, rfl, rfl, rfl, rfl⟩
  rotate_left
  · have hk0 := HER.out k rfl
    have e1 : (k == 0) = false := by simp [hk0]
    have e2 : (k != 0) = true := by simp [hk0]
    clear HK HER HFW hk0 c1
    go_wp2_with fail
    refine bodyPost_ret3 rfl rfl rfl rfl rfl ?_
    exact ⟨rfl, HB4.out⟩
  have hfw := HFW.out c rfl
  obtain ⟨ra, rc, rfl, hrs, hrc, _⟩ := row_all h1
  have HRS := Lib.hid (hrs.below HB34.out)
  have HT := Lib.hid (show srchV (eqlB key) (.ok c) = match findV (eqlB key) 0 c.recs with | some x => (x.1, x.2, 0) | none => ([], [], 6) from rfl)
  have hs34 : w3.heap.size ≤ W4.heap.size := HB34.out.size
  clear HK HER HFW h1 h2 hrs
  generalize c.recs = R at *
  go_wp2_with fail
  go_loopw [11, 12, 13, 26] (fun _ _ _ k wr => ∃ j : Nat, j ≤ R.length ∧ k = .int .i64 j ∧ Below W4.heap.size W4 wr ∧ findV (eqlB key) 0 R = findV (eqlB key) j (R.drop j)) (fun _ _ _ k _ => R.length - (intOf k).toNat)
  case atStart => exact ⟨0, by omega, rfl, Below.refl _ _, rfl⟩
  case round =>
    obtain ⟨j, hj, rfl, hb, hF⟩ := hrel
    have HB := Lib.hid hb
    have HBW := Lib.hid (HB4.out.trans (hb.mono HB4.out.size))
    by_cases hlt : j < R.length
    · obtain ⟨b, off, rfl, hbb, hc⟩ := HRS.out.get hlt
      replace hc := (hb.cell (p := ⟨b, off + j, none⟩) (show b < W4.heap.size by omega)).trans hc
      have hkc := (HBW.out.cell hkl).trans HKC.out
      rw [List.drop_eq_getElem_cons hlt] at hF
      rw [findV] at hF
      generalize R[j] = r at hc hF
      have hp := place_any (1 + j) wr (by omega)
      rw [show ((1 + j : Nat) : Int) = 1 + (j : Int) by omega] at hp
      have HP := Lib.hid hp
      have HKK := Lib.hid (fun W hx => getc_any (plc (1 + j)) key W ck hx)
      generalize plc (1 + j) = pk at HP HKK hF
      have HKC2 := Lib.hid hkc
      clear hb hp hkc
      cases hpv : eqlB key pk
      · rw [hpv] at hF HKK
        rw [if_neg (by simp)] at hF
        have HF := Lib.hid hF
        clear hF hpv
        go_wp2_with fail
        refine HP.out.mono ?_
        rintro e w5 ⟨rfl, hb5⟩
        have HB5 := Lib.hid (HB.out.trans (hb5.mono HB.out.size))
        have hk5 := (hb5.cell (block_lt_of_cell HKC2.out)).trans HKC2.out
        have HK5 := Lib.hid hk5
        clear hb5 hk5
        go_wp2_with fail
        refine (HKK.out w5 HK5.out).mono ?_
        rintro e _ ⟨rfl, rfl⟩
        go_wp2_with fail
        go_roundw
        case rel => exact ⟨j + 1, by omega, by go_num, HB5.out, HF.out⟩
        case measure => simp [intOf]; omega
      · rw [hpv] at hF HKK
        rw [if_pos rfl] at hF
        have HSV := Lib.hid (show srchV (eqlB key) (.ok c) = (pk, r, 0) by rw [HT.out, hF])
        clear hF hpv
        go_wp2_with fail
        refine HP.out.mono ?_
        rintro e w5 ⟨rfl, hb5⟩
        have HB5 := Lib.hid (HBW.out.trans (hb5.mono HBW.out.size))
        have hk5 := (hb5.cell (block_lt_of_cell HKC2.out)).trans HKC2.out
        have HK5 := Lib.hid hk5
        clear hb5 hk5
        go_wp2_with fail
        refine (HKK.out w5 HK5.out).mono ?_
        rintro e _ ⟨rfl, rfl⟩
        go_wp2_with fail
        refine bodyPost_ret3 rfl rfl rfl rfl rfl ?_
        rw [HSV.out]
        exact ⟨rfl, HB5.out⟩
    · rw [List.drop_eq_nil_of_le (by omega)] at hF
      have HSV := Lib.hid (show srchV (eqlB key) (.ok c) = ([], [], 6) by rw [HT.out, hF]; rfl)
      clear hF hb
      go_wp2_with fail
      refine bodyPost_ret3 rfl rfl rfl rfl rfl ?_
      rw [HSV.out]
      exact ⟨rfl, HBW.out⟩

set_option maxRecDepth 100000 in
set_option maxHeartbeats 2000000 in
theorem next_any (org fmt len blk : Int) (w : World) (B : Nat) (a : Option Addr) (cap : Nat) (l : List By) (key : By) (h : Strs w B a l) (hB : B ≤ w.heap.size) (hl : l.length ≤ 300) (hc0 : Codes w) :
    Calls Tryz.prog 18 #[.agg (dsv org fmt len blk), pgv a l.length cap, .string ⟨key.toArray⟩] w fun e w' =>
      e = .returned (.tuple #[.string ⟨(srchV (gtrB key) (openV org fmt len blk l)).1.toArray⟩, .string ⟨(srchV (gtrB key) (openV org fmt len blk l)).2.1.toArray⟩, .int .i64 (srchV (gtrB key) (openV org fmt len blk l)).2.2]) ∧ Below w.heap.size w w' := by
  have hmf : ∀ (fn : Fn) (first cap : Array Value) (w : World), (Instr.makeFunc fn first cap).run Tryz.prog w = .ok (.func fn first cap) w := fun _ _ _ _ => rfl
  have HD0 := Lib.hid ((halloc _ (.cells #[.string ⟨key.toArray⟩] 9) (by simp)).trans (heap_alloc_new w (.cells (dsv org fmt len blk) 29)))
  have HB0 := Lib.hid (two_below w (dsv org fmt len blk) #[.string ⟨key.toArray⟩] 29 9)
  have HK0 := Lib.hid (cell_at (i := 0) (v := .string ⟨key.toArray⟩) (two_new w (dsv org fmt len blk) #[.string ⟨key.toArray⟩] 29 9) rfl)
  have HS := Lib.hid (fun W b1 b2 b3 b4 => search_next org fmt len blk W B a cap l (w.heap.size + 1) key b1 b2 hl b3 b4)
  generalize srchV (gtrB key) (openV org fmt len blk l) = SV at HS ⊢
  have dl0 := loadDs_at HD0.out rfl
  go_enter Tryz.func18, Tryz.ntmps18
  go_wp2_with fail
  refine (HS.out _ (h.below (HB0.out.mono hB)) (Nat.le_trans hB HB0.out.size) HK0.out (hc0.below HB0.out hc0.pos)).mono ?_
  rintro e w3 ⟨rfl, hb3⟩
  have HB3 := Lib.hid (HB0.out.trans (hb3.mono HB0.out.size))
  clear hb3 dl0
  go_wp2_with fail
  refine bodyPost_ret3 rfl rfl rfl rfl rfl ?_
  exact ⟨rfl, HB3.out⟩

set_option maxRecDepth 100000 in
set_option maxHeartbeats 2000000 in
theorem get_any (org fmt len blk : Int) (w : World) (B : Nat) (a : Option Addr) (cap : Nat) (l : List By) (key : By) (h : Strs w B a l) (hB : B ≤ w.heap.size) (hl : l.length ≤ 300) (hc0 : Codes w) :
    Calls Tryz.prog 16 #[.agg (dsv org fmt len blk), pgv a l.length cap, .string ⟨key.toArray⟩] w fun e w' =>
      e = .returned (.tuple #[.string ⟨(srchV (eqlB key) (openV org fmt len blk l)).2.1.toArray⟩, .int .i64 (srchV (eqlB key) (openV org fmt len blk l)).2.2]) ∧ Below w.heap.size w w' := by
  have hmf : ∀ (fn : Fn) (first cap : Array Value) (w : World), (Instr.makeFunc fn first cap).run Tryz.prog w = .ok (.func fn first cap) w := fun _ _ _ _ => rfl
  have HD0 := Lib.hid ((halloc _ (.cells #[.string ⟨key.toArray⟩] 9) (by simp)).trans (heap_alloc_new w (.cells (dsv org fmt len blk) 29)))
  have HB0 := Lib.hid (two_below w (dsv org fmt len blk) #[.string ⟨key.toArray⟩] 29 9)
  have HK0 := Lib.hid (cell_at (i := 0) (v := .string ⟨key.toArray⟩) (two_new w (dsv org fmt len blk) #[.string ⟨key.toArray⟩] 29 9) rfl)
  have HS := Lib.hid (fun W b1 b2 b3 b4 => search_get org fmt len blk W B a cap l (w.heap.size + 1) key b1 b2 hl b3 b4)
  generalize srchV (eqlB key) (openV org fmt len blk l) = SV at HS ⊢
  have dl0 := loadDs_at HD0.out rfl
  go_enter Tryz.func16, Tryz.ntmps16
  go_wp2_with fail
  refine (HS.out _ (h.below (HB0.out.mono hB)) (Nat.le_trans hB HB0.out.size) HK0.out (hc0.below HB0.out hc0.pos)).mono ?_
  rintro e w3 ⟨rfl, hb3⟩
  have HB3 := Lib.hid (HB0.out.trans (hb3.mono HB0.out.size))
  clear hb3 dl0
  go_wp2_with fail
  go_ret2
  exact ⟨rfl, HB3.out⟩

end Go.Proofs.YthkpcalopmddpaaGreatDoor

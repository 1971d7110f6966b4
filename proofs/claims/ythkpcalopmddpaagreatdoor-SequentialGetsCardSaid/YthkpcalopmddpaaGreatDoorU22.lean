/-
  Walks: the laws SequentialReads and SequentialGets. Conditions: the sectors lie in memory as a slice; the table of codes is laid.
-/
import Derived.Test.YthkpcalopmddpaaGreatDoorHE
import Derived.Test.YthkpcalopmddpaaGreatDoorU18
import Derived.Test.YthkpcalopmddpaaGreatDoorGR
import Derived.Test.YthkpcalopmddpaaGreatDoorT44A
import Derived.Test.YthkpcalopmddpaaGreatDoorGJ
namespace Go.Proofs.YthkpcalopmddpaaGreatDoor
open Go.RowKit Go.Sort
attribute [local go_sem ↓] loadDs_down

theorem LPost.sl {w w' : World} {T : Except Int (List By)} {e : Ending} (h : LPost w T e w') : ∃ a c k L, e = .returned (.tuple #[.slice a L.length c, .int .i64 k]) ∧ Strs w' w'.heap.size a L ∧ ((T = .ok L ∧ k = 0) ∨ (T = .error k ∧ L = [])) := by
  obtain ⟨v, k, he, hk⟩ := h.any
  rcases hk with ⟨L, h1, h2, h3⟩ | ⟨h1, rfl⟩
  · obtain ⟨a, c, rfl, hs, _⟩ := strs_of_row h3
    exact ⟨a, c, k, L, he, hs, Or.inl ⟨h1, h2⟩⟩
  · exact ⟨none, 0, k, [], he, strs_nil _ _ _, Or.inr ⟨h1, rfl⟩⟩
theorem lp_two {T : Except Int (List By)} {L1 L2 : List By} {k1 k2 : Int} (h1 : (T = .ok L1 ∧ k1 = 0) ∨ (T = .error k1 ∧ L1 = [])) (h2 : (T = .ok L2 ∧ k2 = 0) ∨ (T = .error k2 ∧ L2 = [])) : L2 = L1 ∧ k2 = k1 := by
  rcases h1 with ⟨a1, b1⟩ | ⟨a1, b1⟩ <;> rcases h2 with ⟨a2, b2⟩ | ⟨a2, b2⟩ <;> rw [a1] at a2 <;> cases a2
  · exact ⟨rfl, b2.trans b1.symm⟩
  · exact ⟨b2.trans b1.symm, rfl⟩
theorem openV_small {org fmt len blk : Int} {l : List By} {c : Con} (hl : l.length ≤ 300) (hc : openV org fmt len blk l = .ok c) : c.recs.length ≤ 40000 ∧ c.blk.length ≤ 40000 := by
  unfold openV at hc
  split at hc
  · rename_i hd
    obtain ⟨rfl, h1, h2⟩ := ds_pos hd
    obtain ⟨len', rfl⟩ := Int.eq_ofNat_of_zero_le h1
    obtain ⟨blk', rfl⟩ := Int.eq_ofNat_of_zero_le h2
    have h := readV_ok hd hc
    have h3 := h.few
    have h4 := h.sl
    have h5 := stream_ge c.blk
    have h6 : streamOf c.blk = c.str := by rw [h.blks, h.str]
    rw [h6] at h5
    exact ⟨by omega, by omega⟩
  · cases hc

set_option maxRecDepth 100000 in
set_option maxHeartbeats 4000000 in
theorem reads_few (org fmt len blk : Int) (w : World) (B : Nat) (a : Option Addr) (cap : Nat) (l : List By) (h : Strs w B a l) (hB : B ≤ w.heap.size) (hl : l.length ≤ 9223372036854775807) (hc0 : Codes w) (hf : fewV l 60 200 = false) :
    Calls Tryz.prog 3 #[.agg #[.int .i64 org, .int .i64 fmt, .int .i64 len, .int .i64 blk], .slice a l.length cap] w fun e w' => e = .returned (.bool true) ∧ Below w.heap.size w w' := by
  have HB0 := Lib.hid (box_below w #[.int .i64 org, .int .i64 fmt, .int .i64 len, .int .i64 blk] 23)
  have HF := Lib.hid (fun W h' => rfew_any W B a cap l h' hl)
  rw [hf] at HF
  clear hf
  go_enter Tryz.func3, Tryz.ntmps3
  go_wp2_with fail
  refine (awake_any _ (hc0.below HB0.out hc0.pos)).mono ?_
  rintro e w1 ⟨rfl, hb1⟩
  have HB1 := Lib.hid (HB0.out.trans (hb1.mono HB0.out.size))
  clear hb1
  go_wp2_with fail
  refine (HF.out _ (h.below (HB1.out.mono hB))).mono ?_
  rintro e _ ⟨rfl, rfl⟩
  go_wp2_with fail
  refine (awake_any _ (hc0.below HB1.out hc0.pos)).mono ?_
  rintro e w2 ⟨rfl, hb2⟩
  have HB2 := Lib.hid (HB1.out.trans (hb2.mono HB1.out.size))
  clear hb2
  go_wp2_with fail
  go_ret
  exact ⟨rfl, HB2.out⟩

set_option maxRecDepth 100000 in
set_option maxHeartbeats 8000000 in
theorem reads_all (org fmt len blk : Int) (w : World) (B : Nat) (a : Option Addr) (cap : Nat) (l : List By) (h : Strs w B a l) (hB : B ≤ w.heap.size) (hc0 : Codes w) (hf : fewV l 60 200 = true) :
    Calls Tryz.prog 3 #[.agg #[.int .i64 org, .int .i64 fmt, .int .i64 len, .int .i64 blk], .slice a l.length cap] w fun e w' => e = .returned (.bool true) ∧ Below w.heap.size w w' := by
  have hl := few_len hf
  have HB0 := Lib.hid (box_below w #[.int .i64 org, .int .i64 fmt, .int .i64 len, .int .i64 blk] 23)
  have HF := Lib.hid (fun W h' => rfew_any W B a cap l h' (by omega))
  rw [hf] at HF
  clear hf
  have hh := fun W h1 => head_read W B a cap l h1
  have hr := fun W h1 => rhead_read W B a cap l h1
  generalize headV l = hd at hh hr
  obtain ⟨h1, h2, h3, h4⟩ := hd
  have HH := Lib.hid hh
  have HR := Lib.hid hr
  clear hh hr
  have HPB := Lib.hid (fun W h1 h2 h3 => blocks_any org fmt len blk W B a cap l h1 h2 (by omega) h3)
  have HRB := Lib.hid (fun W h1 h2 => rblocks_any org fmt len blk W B a cap l h1 h2 (by omega))
  have HPR := Lib.hid (fun W h1 h2 h3 => records_any org fmt len blk W B a cap l h1 h2 (by omega) h3)
  have HRR := Lib.hid (fun W h1 h2 => rrecords_any org fmt len blk W B a cap l h1 h2 (by omega))
  have HSM := Lib.hid (fun c (hc : openV org fmt len blk l = .ok c) => openV_small (by omega) hc)
  generalize openV org fmt len blk l = T at HPB HRB HPR HRR HSM
  have HLB := Lib.hid (fun (L : List By) (k : Int) (hk : (blksT T = .ok L ∧ k = 0) ∨ (blksT T = .error k ∧ L = [])) => show L.length ≤ 40000 from by
    rcases hk with ⟨h1, _⟩ | ⟨_, rfl⟩
    · cases T with
      | ok c => obtain rfl := Except.ok.inj h1; exact (HSM.out c rfl).2
      | error k => cases h1
    · simp)
  have HLR := Lib.hid (fun (L : List By) (k : Int) (hk : (recsT T = .ok L ∧ k = 0) ∨ (recsT T = .error k ∧ L = [])) => show L.length ≤ 40000 from by
    rcases hk with ⟨h1, _⟩ | ⟨_, rfl⟩
    · cases T with
      | ok c => obtain rfl := Except.ok.inj h1; exact (HSM.out c rfl).1
      | error k => cases h1
    · simp)
  have H1 := Lib.hid (show (dsv org fmt len blk).all (·.oneCell') = true by simp [dsv, Value.oneCell'])
  have HSZ := Lib.hid (show (dsv org fmt len blk).size = 21 from rfl)
  have HST := Lib.hid h
  clear h
  go_enter Tryz.func3, Tryz.ntmps3
  go_wp2_with fail
  refine (awake_any _ (hc0.below HB0.out hc0.pos)).mono ?_
  rintro e w1 ⟨rfl, hb1⟩
  have HB1 := Lib.hid (HB0.out.trans (hb1.mono HB0.out.size))
  have HX1 := Lib.hid ((hb1.block w.heap.size (by simp)).trans (heap_alloc_new w (.cells #[.int .i64 org, .int .i64 fmt, .int .i64 len, .int .i64 blk] 23)))
  clear hb1
  go_wp2_with fail
  refine (HF.out _ (HST.out.below (HB1.out.mono hB))).mono ?_
  rintro e _ ⟨rfl, rfl⟩
  have x0 := cell_at (i := 0) (v := .int .i64 org) HX1.out rfl
  have x1 := cell_at (i := 1) (v := .int .i64 fmt) HX1.out rfl
  have x2 := cell_at (i := 2) (v := .int .i64 len) HX1.out rfl
  have x3 := cell_at (i := 3) (v := .int .i64 blk) HX1.out rfl
  go_wp2_with fail
  refine (set_any _ _ _ _ _).mono ?_
  rintro e w2 ⟨rfl, hb2⟩
  have HB2 := Lib.hid (HB1.out.trans (hb2.mono HB1.out.size))
  clear hb2 x0 x1 x2 x3 HX1
  obtain ⟨W3, hW3⟩ : ∃ W3, W3 = (w2.alloc (.cells dsz 29)).setRow w2.heap.size (dsv org fmt len blk) := ⟨_, rfl⟩
  have hd3 : W3.heap[w2.heap.size]? = some (.cells (dsv org fmt len blk) 29 (0, 0)) := by rw [hW3]; exact setRow_heap _ _ _ _ _ _ (heap_alloc_new _ _)
  have HB3 := Lib.hid (show Below w.heap.size w W3 by rw [hW3]; exact Below.setRow (HB2.out.alloc HB2.out.size _) HB2.out.size _)
  have HD3 := Lib.hid hd3
  have HW3 := Lib.hid hW3
  clear hd3 hW3
  have dl3 := loadDs_at HD3.out rfl
  go_wp2_with (
    refine wpList_store_rowTo rfl _ _ _ rfl rfl w2.heap.size (dsv org fmt len blk) rfl rfl 29 dsz (heap_alloc_new _ _) (by rw [info_ds, HSZ.out]) (by rw [HSZ.out]; rfl) H1.out ?_
    rw [← HW3.out])
  refine (HH.out _ (HST.out.below (HB3.out.mono hB))).mono ?_
  rintro e w4 ⟨rfl, hb4⟩
  have HBB4 := Lib.hid hb4
  clear hb4
  have HB4 := Lib.hid (HB3.out.trans (HBB4.out.mono HB3.out.size))
  have HD4 := Lib.hid ((HBB4.out.block w2.heap.size (lt_of_block HD3.out)).trans HD3.out)
  clear dl3
  have dl4 := loadDs_at HD4.out rfl
  go_wp2_with fail
  refine (HR.out _ (HST.out.below (HB4.out.mono hB))).mono ?_
  rintro e w5 ⟨rfl, hb5⟩
  have HBB5 := Lib.hid hb5
  clear hb5
  have HB5 := Lib.hid (HB4.out.trans (HBB5.out.mono HB4.out.size))
  have HD5 := Lib.hid ((HBB5.out.block w2.heap.size (lt_of_block HD4.out)).trans HD4.out)
  clear dl4
  have dl5 := loadDs_at HD5.out rfl
  go_wp2_with fail
  refine (HPB.out _ (HST.out.below (HB5.out.mono hB)) (Nat.le_trans hB HB5.out.size) (hc0.below HB5.out hc0.pos)).mono ?_
  rintro e w6 hP
  have HBB6 := Lib.hid hP.bel
  obtain ⟨o1, o2, o3, oL, rfl, os, ok⟩ := hP.sl
  have HoS := Lib.hid os
  have HoK := Lib.hid ok
  clear hP os ok
  have HB6 := Lib.hid (HB5.out.trans (HBB6.out.mono HB5.out.size))
  have HD6 := Lib.hid ((HBB6.out.block w2.heap.size (lt_of_block HD5.out)).trans HD5.out)
  clear dl5
  have dl6 := loadDs_at HD6.out rfl
  go_wp2_with fail
  refine (HRB.out _ (HST.out.below (HB6.out.mono hB)) (Nat.le_trans hB HB6.out.size)).mono ?_
  rintro e w7 hP
  have HBB7 := Lib.hid hP.bel
  obtain ⟨p1, p2, p3, pL, rfl, ps, pk⟩ := hP.sl
  have HpS := Lib.hid ps
  have HpK := Lib.hid pk
  clear hP ps pk
  have HB7 := Lib.hid (HB6.out.trans (HBB7.out.mono HB6.out.size))
  have HD7 := Lib.hid ((HBB7.out.block w2.heap.size (lt_of_block HD6.out)).trans HD6.out)
  replace HoS := Lib.hid ((HoS.out.below HBB7.out).mono HBB7.out.size)
  clear dl6
  have dl7 := loadDs_at HD7.out rfl
  obtain ⟨rfl, rfl⟩ := lp_two HoK.out HpK.out
  go_wp2_with fail
  refine (HPR.out _ (HST.out.below (HB7.out.mono hB)) (Nat.le_trans hB HB7.out.size) (hc0.below HB7.out hc0.pos)).mono ?_
  rintro e w8 hP
  have HBB8 := Lib.hid hP.bel
  obtain ⟨q1, q2, q3, qL, rfl, qs, qk⟩ := hP.sl
  have HqS := Lib.hid qs
  have HqK := Lib.hid qk
  clear hP qs qk
  have HB8 := Lib.hid (HB7.out.trans (HBB8.out.mono HB7.out.size))
  have HD8 := Lib.hid ((HBB8.out.block w2.heap.size (lt_of_block HD7.out)).trans HD7.out)
  replace HoS := Lib.hid ((HoS.out.below HBB8.out).mono HBB8.out.size)
  replace HpS := Lib.hid ((HpS.out.below HBB8.out).mono HBB8.out.size)
  clear dl7
  have dl8 := loadDs_at HD8.out rfl
  go_wp2_with fail
  refine (HRR.out _ (HST.out.below (HB8.out.mono hB)) (Nat.le_trans hB HB8.out.size)).mono ?_
  rintro e w9 hP
  have HBB9 := Lib.hid hP.bel
  obtain ⟨r1, r2, r3, rL, rfl, rs, rk⟩ := hP.sl
  have HrS := Lib.hid rs
  have HrK := Lib.hid rk
  clear hP rs rk
  have HB9 := Lib.hid (HB8.out.trans (HBB9.out.mono HB8.out.size))
  have HD9 := Lib.hid ((HBB9.out.block w2.heap.size (lt_of_block HD8.out)).trans HD8.out)
  replace HoS := Lib.hid ((HoS.out.below HBB9.out).mono HBB9.out.size)
  replace HpS := Lib.hid ((HpS.out.below HBB9.out).mono HBB9.out.size)
  replace HqS := Lib.hid ((HqS.out.below HBB9.out).mono HBB9.out.size)
  clear dl8
  have dl9 := loadDs_at HD9.out rfl
  obtain ⟨rfl, rfl⟩ := lp_two HqK.out HrK.out
  have HoN := Lib.hid (HLB.out _ _ HoK.out)
  have HqN := Lib.hid (HLR.out _ _ HqK.out)
  clear HpK HrK dl9
  go_wp2_with fail
  have s1 := rsame_any w9 w9.heap.size w9.heap.size o1 p1 o2 p2 pL pL HoS.out HpS.out (by have := HoN.out; omega) (by have := HoN.out; omega)
  rw [show decide (pL = pL) = true by simp] at s1
  refine s1.mono ?_
  rintro e w10 ⟨rfl, hb10⟩
  have HB10 := Lib.hid (HB9.out.trans (hb10.mono HB9.out.size))
  have s2 := rsame_any w10 w9.heap.size w9.heap.size q1 r1 q2 r2 rL rL (HqS.out.below hb10) (HrS.out.below hb10) (by have := HqN.out; omega) (by have := HqN.out; omega)
  rw [show decide (rL = rL) = true by simp] at s2
  clear hb10
  go_wp2_with fail
  refine s2.mono ?_
  rintro e w11 ⟨rfl, hb11⟩
  have HB11 := Lib.hid (HB10.out.trans (hb11.mono HB10.out.size))
  clear hb11
  go_wp2_with fail
  go_ret
  exact ⟨rfl, HB11.out⟩

theorem reads_any (org fmt len blk : Int) (w : World) (B : Nat) (a : Option Addr) (cap : Nat) (l : List By) (h : Strs w B a l) (hB : B ≤ w.heap.size) (hl : l.length ≤ 9223372036854775807) (hc0 : Codes w) :
    Calls Tryz.prog 3 #[.agg #[.int .i64 org, .int .i64 fmt, .int .i64 len, .int .i64 blk], .slice a l.length cap] w fun e w' => e = .returned (.bool true) ∧ Below w.heap.size w w' := by
  cases hf : fewV l 60 200
  · exact reads_few org fmt len blk w B a cap l h hB hl hc0 hf
  · exact reads_all org fmt len blk w B a cap l h hB hc0 hf

set_option maxRecDepth 100000 in
set_option maxHeartbeats 4000000 in
theorem gets_few (org fmt len blk : Int) (w : World) (B : Nat) (a : Option Addr) (cap : Nat) (l : List By) (key : By) (h : Strs w B a l) (hB : B ≤ w.heap.size) (hl : l.length ≤ 9223372036854775807) (hc0 : Codes w) (hf : fewV l 60 200 = false ∨ (fewV l 60 200 = true ∧ 50 < key.length)) :
    Calls Tryz.prog 4 #[.agg #[.int .i64 org, .int .i64 fmt, .int .i64 len, .int .i64 blk], .slice a l.length cap, .string ⟨key.toArray⟩] w fun e w' => e = .returned (.bool true) ∧ Below w.heap.size w w' := by
  have HB0 := Lib.hid (box_below w #[.int .i64 org, .int .i64 fmt, .int .i64 len, .int .i64 blk] 23)
  have HF := Lib.hid (fun W h' => rfew_any W B a cap l h' hl)
  rcases hf with hf | ⟨hf, hk⟩
  all_goals rw [hf] at HF
  rotate_left
  all_goals try have hkI : (50 : Int) < (key.length : Int) := by omega
  all_goals
    go_enter Tryz.func4, Tryz.ntmps4
    go_wp2_with fail
    refine (awake_any _ (hc0.below HB0.out hc0.pos)).mono ?_
    rintro e w1 ⟨rfl, hb1⟩
    have HB1 := Lib.hid (HB0.out.trans (hb1.mono HB0.out.size))
    clear hb1
    go_wp2_with fail
    refine (HF.out _ (h.below (HB1.out.mono hB))).mono ?_
    rintro e _ ⟨rfl, rfl⟩
    go_wp2_with fail
    refine (awake_any _ (hc0.below HB1.out hc0.pos)).mono ?_
    rintro e w2 ⟨rfl, hb2⟩
    have HB2 := Lib.hid (HB1.out.trans (hb2.mono HB1.out.size))
    clear hb2
    go_wp2_with fail
    go_ret
    exact ⟨rfl, HB2.out⟩

set_option maxRecDepth 100000 in
set_option maxHeartbeats 8000000 in
theorem gets_all (org fmt len blk : Int) (w : World) (B : Nat) (a : Option Addr) (cap : Nat) (l : List By) (key : By) (h : Strs w B a l) (hB : B ≤ w.heap.size) (hc0 : Codes w) (hf : fewV l 60 200 = true) (hk : key.length ≤ 50) :
    Calls Tryz.prog 4 #[.agg #[.int .i64 org, .int .i64 fmt, .int .i64 len, .int .i64 blk], .slice a l.length cap, .string ⟨key.toArray⟩] w fun e w' => e = .returned (.bool true) ∧ Below w.heap.size w w' := by
  have hl := few_len hf
  have HB0 := Lib.hid (box_below w #[.int .i64 org, .int .i64 fmt, .int .i64 len, .int .i64 blk] 23)
  have HF := Lib.hid (fun W h' => rfew_any W B a cap l h' (by omega))
  rw [hf] at HF
  clear hf
  have hpg := fun W h1 h2 h3 => get_any org fmt len blk W B a cap l key h1 h2 (by omega) h3
  have hrg := fun W h1 h2 => rget_any org fmt len blk W B a cap l key h1 h2 (by omega)
  have hpn := fun W h1 h2 h3 => next_any org fmt len blk W B a cap l key h1 h2 (by omega) h3
  have hrn := fun W h1 h2 => rnext_any org fmt len blk W B a cap l key h1 h2 (by omega)
  generalize srchV (eqlB key) (openV org fmt len blk l) = SG at hpg hrg
  generalize srchV (gtrB key) (openV org fmt len blk l) = SN at hpn hrn
  obtain ⟨g1, g2, g3⟩ := SG
  obtain ⟨n1, n2, n3⟩ := SN
  have HPG := Lib.hid hpg
  have HRG := Lib.hid hrg
  have HPN := Lib.hid hpn
  have HRN := Lib.hid hrn
  clear hpg hrg hpn hrn
  have hkI : ¬ (50 : Int) < (key.length : Int) := by omega
  have H1 := Lib.hid (show (dsv org fmt len blk).all (·.oneCell') = true by simp [dsv, Value.oneCell'])
  have HSZ := Lib.hid (show (dsv org fmt len blk).size = 21 from rfl)
  have HST := Lib.hid h
  clear h
  go_enter Tryz.func4, Tryz.ntmps4
  go_wp2_with fail
  refine (awake_any _ (hc0.below HB0.out hc0.pos)).mono ?_
  rintro e w1 ⟨rfl, hb1⟩
  have HB1 := Lib.hid (HB0.out.trans (hb1.mono HB0.out.size))
  have HX1 := Lib.hid ((hb1.block w.heap.size (by simp)).trans (heap_alloc_new w (.cells #[.int .i64 org, .int .i64 fmt, .int .i64 len, .int .i64 blk] 23)))
  clear hb1
  go_wp2_with fail
  refine (HF.out _ (HST.out.below (HB1.out.mono hB))).mono ?_
  rintro e _ ⟨rfl, rfl⟩
  have x0 := cell_at (i := 0) (v := .int .i64 org) HX1.out rfl
  have x1 := cell_at (i := 1) (v := .int .i64 fmt) HX1.out rfl
  have x2 := cell_at (i := 2) (v := .int .i64 len) HX1.out rfl
  have x3 := cell_at (i := 3) (v := .int .i64 blk) HX1.out rfl
  go_wp2_with fail
  refine (set_any _ _ _ _ _).mono ?_
  rintro e w2 ⟨rfl, hb2⟩
  have HB2 := Lib.hid (HB1.out.trans (hb2.mono HB1.out.size))
  clear hb2 x0 x1 x2 x3 HX1
  obtain ⟨W3, hW3⟩ : ∃ W3, W3 = (w2.alloc (.cells dsz 29)).setRow w2.heap.size (dsv org fmt len blk) := ⟨_, rfl⟩
  have hd3 : W3.heap[w2.heap.size]? = some (.cells (dsv org fmt len blk) 29 (0, 0)) := by rw [hW3]; exact setRow_heap _ _ _ _ _ _ (heap_alloc_new _ _)
  have HB3 := Lib.hid (show Below w.heap.size w W3 by rw [hW3]; exact Below.setRow (HB2.out.alloc HB2.out.size _) HB2.out.size _)
  have HD3 := Lib.hid hd3
  have HW3 := Lib.hid hW3
  clear hd3 hW3
  have dl3 := loadDs_at HD3.out rfl
  go_wp2_with (
    refine wpList_store_rowTo rfl _ _ _ rfl rfl w2.heap.size (dsv org fmt len blk) rfl rfl 29 dsz (heap_alloc_new _ _) (by rw [info_ds, HSZ.out]) (by rw [HSZ.out]; rfl) H1.out ?_
    rw [← HW3.out])
  refine (HPG.out _ (HST.out.below (HB3.out.mono hB)) (Nat.le_trans hB HB3.out.size) (hc0.below HB3.out hc0.pos)).mono ?_
  rintro e w4 ⟨rfl, hb4⟩
  have HBB4 := Lib.hid hb4
  clear hb4
  have HB4 := Lib.hid (HB3.out.trans (HBB4.out.mono HB3.out.size))
  have HD4 := Lib.hid ((HBB4.out.block w2.heap.size (lt_of_block HD3.out)).trans HD3.out)
  clear dl3
  have dl4 := loadDs_at HD4.out rfl
  go_wp2_with fail
  refine (HRG.out _ (HST.out.below (HB4.out.mono hB)) (Nat.le_trans hB HB4.out.size)).mono ?_
  rintro e w5 ⟨rfl, hb5⟩
  have HBB5 := Lib.hid hb5
  clear hb5
  have HB5 := Lib.hid (HB4.out.trans (HBB5.out.mono HB4.out.size))
  have HD5 := Lib.hid ((HBB5.out.block w2.heap.size (lt_of_block HD4.out)).trans HD4.out)
  clear dl4
  have dl5 := loadDs_at HD5.out rfl
  go_wp2_with fail
  refine (HPN.out _ (HST.out.below (HB5.out.mono hB)) (Nat.le_trans hB HB5.out.size) (hc0.below HB5.out hc0.pos)).mono ?_
  rintro e w6 ⟨rfl, hb6⟩
  have HBB6 := Lib.hid hb6
  clear hb6
  have HB6 := Lib.hid (HB5.out.trans (HBB6.out.mono HB5.out.size))
  have HD6 := Lib.hid ((HBB6.out.block w2.heap.size (lt_of_block HD5.out)).trans HD5.out)
  clear dl5
  have dl6 := loadDs_at HD6.out rfl
  go_wp2_with fail
  refine (HRN.out _ (HST.out.below (HB6.out.mono hB)) (Nat.le_trans hB HB6.out.size)).mono ?_
  rintro e w7 ⟨rfl, hb7⟩
  have HBB7 := Lib.hid hb7
  clear hb7
  have HB7 := Lib.hid (HB6.out.trans (HBB7.out.mono HB6.out.size))
  have HD7 := Lib.hid ((HBB7.out.block w2.heap.size (lt_of_block HD6.out)).trans HD6.out)
  clear dl6
  have dl7 := loadDs_at HD7.out rfl
  clear dl7
  go_wp2_with fail
  go_ret
  exact ⟨rfl, HB7.out⟩

theorem gets_any (org fmt len blk : Int) (w : World) (B : Nat) (a : Option Addr) (cap : Nat) (l : List By) (key : By) (h : Strs w B a l) (hB : B ≤ w.heap.size) (hl : l.length ≤ 9223372036854775807) (hc0 : Codes w) :
    Calls Tryz.prog 4 #[.agg #[.int .i64 org, .int .i64 fmt, .int .i64 len, .int .i64 blk], .slice a l.length cap, .string ⟨key.toArray⟩] w fun e w' => e = .returned (.bool true) ∧ Below w.heap.size w w' := by
  cases hf : fewV l 60 200
  · exact gets_few org fmt len blk w B a cap l key h hB hl hc0 (Or.inl hf)
  · by_cases hk : key.length ≤ 50
    · exact gets_all org fmt len blk w B a cap l key h hB hc0 hf hk
    · exact gets_few org fmt len blk w B a cap l key h hB hl hc0 (Or.inr ⟨hf, by omega⟩)

end Go.Proofs.YthkpcalopmddpaaGreatDoor

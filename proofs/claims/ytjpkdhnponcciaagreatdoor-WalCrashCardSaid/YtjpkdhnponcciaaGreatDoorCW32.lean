/-
  Walks: Bad, of a log that stands. Condition: the log and its copies lie in memory; each copy that is there holds the log.
-/
import Derived.Test.YtjpkdhnponcciaaGreatDoorCW31
namespace Go.Proofs.YtjpkdhnponcciaaGreatDoor
open Go.RowKit Go.Sort

theorem posW_at (h : Hw) (hn : 2 ≤ h.n) : ∀ (T : List Rc) (k : Nat) (pre : List (Rc × Nat × Nat)) (x : Rc × Nat × Nat) (post : List (Rc × Nat × Nat)), 1 ≤ k → k < h.n → posW h k T = pre ++ x :: post →
    ∃ T1 r T2, T = T1 ++ r :: T2 ∧ x = (r, h.place k (roomW T1), cntW r.b.length)
  | [], k, pre, x, post, _, _, e => by cases pre <;> simp [posW] at e
  | r :: T, k, [], x, post, h1, h2, e => by
    rw [posW, List.nil_append, List.cons.injEq] at e
    exact ⟨[], r, T, rfl, by rw [← e.1]; show _ = (r, h.place k 0, _); rw [place_zero h1 h2]⟩
  | r :: T, k, y :: pre, x, post, h1, h2, e => by
    rw [posW, List.cons_append, List.cons.injEq] at e
    have hp := place_lt hn k (cntW r.b.length)
    obtain ⟨T1, q, T2, e1, e2⟩ := posW_at h hn T _ pre x post hp.1 hp.2 e.2
    exact ⟨r :: T1, q, T2, by rw [e1]; rfl, by rw [e2, place_add]; rfl⟩
theorem chain_mem : ∀ {l : List Rc} {a b : Nat}, Chain a l b → ∀ r ∈ l, r.valid = true
  | [], _, _, _, r, hr => by cases hr
  | x :: l, a, b, hc, r, hr => by
    obtain ⟨h1, _, h3⟩ := hc
    rcases List.mem_cons.1 hr with rfl | hr
    · exact h1
    · exact chain_mem h3 r hr
/-- A copy that holds the log has the pieces of its records. -/
theorem piece_at {h : Hw} {T1 T2 : List Rc} {r : Rc} {M : Mm} (hm : CpIs h (T1 ++ r :: T2) M) (hc : Clean M) (i : Nat) (hi : i < cntW r.b.length) : M.rd (h.place (h.place h.at' (roomW T1)) i) = some (pieceS r.num.toNat i r.b) := by
  have hpl : (piecesL r.num.toNat r.b).length = cntW r.b.length := by simp [piecesL]
  have hj : i < (ringW (r :: T2)).length := by rw [ringW, List.length_append, hpl]; omega
  obtain ⟨h1, h2⟩ := ring_split T1 (r :: T2) i hj
  rw [place_add, rd_clean (hc _), hm.body _ h1, h2]
  congr 1
  simp only [ringW]
  rw [List.getElem_append_left (by rw [hpl]; exact hi)]
  simp [piecesL]
theorem info_b2 : (Tryz.prog.info? 112).map (·.size) = some 2 := by kernel_rfl
def storeB2 (p : Addr) (v : Value) : Sem Unit := storeVar 112 p v
theorem storeB2_down (p : Addr) (v : Value) : storeVar 112 p v = storeB2 p v := rfl
theorem storeB2_at {w : World} {g : Nat} {cs : Array Value} {t : TypeId} {old : Array Value} (hg : w.heap[g]? = some (.cells old t (0, 0))) (hi : cs.size = 2) (ho : old.size = 2) (h1 : cs.all (·.oneCell') = true) : (storeB2 ⟨g, 0, none⟩ (.agg cs)).run Tryz.prog w = .ok () (w.setRow g cs) :=
  run_storeVar_row (P := Tryz.prog) w g t 112 old cs hg (by rw [info_b2, hi]) (by rw [ho, hi]) h1
theorem put_b2 (w : World) (x y : Bool) : ∃ W, (storeB2 ⟨w.heap.size, 0, none⟩ (.agg #[.bool x, .bool y])).run Tryz.prog (w.alloc (.cells #[.bool false, .bool false] 112)) = .ok () W ∧ W.heap[w.heap.size]? = some (.cells #[.bool x, .bool y] 112 (0, 0)) ∧ Below w.heap.size w W := by
  have hz := heap_alloc_new w (.cells #[.bool false, .bool false] 112)
  exact ⟨_, storeB2_at hz rfl rfl (by simp [Value.oneCell']), setRow_heap _ _ _ _ _ _ hz, below_setRow (box_below0 w #[.bool false, .bool false] 112) (Nat.le_refl _) _⟩
/-- Bad's walk over the records finds nothing. -/
theorem badwalk_w (w : World) (lb : Nat) (ka kb : Bk) (A B : Cp) (h : Hw) (R : List Rc) (q1 q2 q3 : Nat) (hL : LgAt w lb ka kb A B) (L : Log A B h R) (hq1 : w.heap[q1]? = some (.cells #[.pointer (some ⟨lb, 0, none⟩)] 26 (0, 0))) (hq2 : w.heap[q2]? = some (.cells h.cs 105 (0, 0))) :
    Calls Tryz.prog 50 #[.pointer (some ⟨lb, 0, none⟩), .agg h.cs, .func (.func 51) #[] #[.pointer (some ⟨q1, 0, none⟩), .pointer (some ⟨q2, 0, none⟩), .pointer (some ⟨q3, 0, none⟩)]] w fun e w' =>
      e = .returned (.int .i64 0) ∧ Below w.heap.size w w' := by
  have hok := L.ok.ok
  have := walkB_w w lb ka kb A B h q1 q2 q3 (fun _ => true) (fun _ S _ => S = []) [] hL L.fit hok.at' (by have := hok.first; have := hok.next; omega) hok.next (fun x hx => by cases hx) (fun _ _ _ _ e _ => e) rfl (by
    rintro pre S W r a cap k n rfl _ ho hLW hrow hs hk1 hk2 _ _ hpost
    obtain ⟨post, hpost⟩ := hpost rfl
    rw [L.walk, takeWhile_true] at hpost
    obtain ⟨T1, r', T2, e1, e2⟩ := posW_at h (by have := hok.n; omega) R _ _ _ _ hok.at'.1 hok.at'.2 hpost
    simp only [Prod.mk.injEq] at e2
    obtain ⟨rfl, rfl, rfl⟩ := e2
    have hv := chain_mem L.ok.chain r (by rw [e1]; simp)
    refine (bad1_w W lb ka kb A B h q1 q2 q3 r a cap _ _ w.heap.size hLW L.fit (ho.heap hq1 (by simp)) (ho.heap hq2 (by simp)) hrow hv ⟨hk1, hk2⟩ (fun i hi M e => ?_) (fun i hi M e => ?_)).mono ?_
    · obtain ⟨h1, h2, _⟩ := L.a M e
      rw [e1] at h1
      exact piece_at h1 h2 i hi
    · obtain ⟨h1, h2, _⟩ := L.b M e
      rw [e1] at h1
      exact piece_at h1 h2 i hi
    · rintro e w' ⟨rfl, hb⟩
      exact ⟨rfl, [], rfl, Only.of_below hb, fun x hx => by cases hx⟩)
  refine this.mono ?_
  rintro e w' ⟨rfl, _, ho⟩
  refine ⟨by rw [L.walk]; rfl, ho.below (Nat.le_refl _) (fun x hx => by cases hx)⟩
section
attribute [local go_sem ↓] loadHd_down storeHd_down storeB2_down
set_option maxRecDepth 100000 in
set_option maxHeartbeats 8000000 in
theorem bad_ss (w : World) (lb : Nat) (ka kb : Bk) (M N : Mm) (h : Hw) (R : List Rc) (hL : LgAt w lb ka kb (some M) (some N)) (L : Log (some M) (some N) h R) :
    Calls Tryz.prog 26 #[.pointer (some ⟨lb, 0, none⟩)] w fun e w' => e = .returned (.tuple #[.bool false, .bool false]) ∧ Below w.heap.size w w' := by
  obtain ⟨w1, hw1⟩ : ∃ w1, w1 = w.alloc (.cells #[.pointer (some ⟨lb, 0, none⟩)] 26) := ⟨_, rfl⟩
  have hg1 : w1.heap[w.heap.size]? = some (.cells #[.pointer (some ⟨lb, 0, none⟩)] 26 (0, 0)) := by rw [hw1]; exact heap_alloc_new _ _
  have hb1 : Below w.heap.size w w1 := by rw [hw1]; exact box_below0 _ _ _
  have HW := Lib.hid hw1
  have HG1 := Lib.hid hg1
  have HB1 := Lib.hid hb1
  have HL1 := Lib.hid (hL.below hb1)
  have HLog := Lib.hid L
  have c0 : w1.cell? ⟨lb, 0, none⟩ = some (.iface 25 (memV ka.p)) := cell_at HL1.out.row rfl
  have cp : w1.cell? ⟨w.heap.size, 0, none⟩ = some (.pointer (some ⟨lb, 0, none⟩)) := cell_at hg1 rfl
  have HRA := Lib.hid (fun (W : World) (h0 : LgAt W lb ka kb (some M) (some N)) => show Calls Tryz.prog 48 #[.iface 25 (memV ka.p)] W fun e w' => e = .returned (.tuple #[.agg h.cs, .bool true]) ∧ Below W.heap.size W w' by
    have h := readHead_w W ka (some M) h0.a (fun M e => by cases e; have := (L.a _ rfl).1.len; have := L.ok.ok.n; omega)
    rw [hdC_is (L.a _ rfl).1 L.ok.ok ((L.a _ rfl).2.1 0)] at h
    exact h)
  have HRB := Lib.hid (fun (W : World) (h0 : LgAt W lb ka kb (some M) (some N)) => show Calls Tryz.prog 48 #[.iface 25 (memV kb.p)] W fun e w' => e = .returned (.tuple #[.agg h.cs, .bool true]) ∧ Below W.heap.size W w' by
    have h := readHead_w W kb (some N) h0.b (fun M e => by cases e; have := (L.b _ rfl).1.len; have := L.ok.ok.n; omega)
    rw [hdC_is (L.b _ rfl).1 L.ok.ok ((L.b _ rfl).2.1 0)] at h
    exact h)
  clear hw1 hg1 hb1 hL L
  go_enter Tryz.func26, Tryz.ntmps26
  go_upto_region 1 with fail
  rw [← HW.out]
  go_wp2_with fail
  refine (HRA.out w1 HL1.out).mono ?_
  rintro e w2 ⟨rfl, hb2⟩
  obtain ⟨w3, st3, hg3, hb3⟩ := put_hd w2 h.cs rfl (by simp [Value.oneCell'])
  have HB3 := Lib.hid (hb2.trans (hb3.mono hb2.size))
  have HG3 := Lib.hid hg3
  have c1 : w3.cell? ⟨lb, 1, none⟩ = some (.iface 25 (memV kb.p)) := cell_at (HL1.out.below HB3.out).row rfl
  have cp3 : w3.cell? ⟨w.heap.size, 0, none⟩ = some (.pointer (some ⟨lb, 0, none⟩)) := cell_at (heap_below HB3.out (lt_of_block HG1.out) HG1.out) rfl
  clear c0 cp hb2 hb3 hg3 HRA
  go_wp2_with fail
  clear st3
  refine (HRB.out w3 (HL1.out.below HB3.out)).mono ?_
  rintro e w4 ⟨rfl, hb4⟩
  obtain ⟨w5, st5, hg5, hb5⟩ := put_hd w4 h.cs rfl (by simp [Value.oneCell'])
  have hb45 := hb4.trans (hb5.mono hb4.size)
  have HB5 := Lib.hid (HB3.out.trans (hb45.mono HB3.out.size))
  have HX5 := Lib.hid (heap_below hb45 (lt_of_block HG3.out) HG3.out)
  have HY5 := Lib.hid hg5
  have l5x := loadHd_at HX5.out rfl
  obtain ⟨w6, st6, hg6, hb6⟩ := put_hd w5 h.cs rfl (by simp [Value.oneCell'])
  have HB6 := Lib.hid (HB5.out.trans (hb6.mono HB5.out.size))
  have HX6 := Lib.hid (heap_below hb6 (lt_of_block HX5.out) HX5.out)
  have HY6 := Lib.hid (heap_below hb6 (lt_of_block HY5.out) HY5.out)
  have HH6 := Lib.hid hg6
  have HOr := Lib.hid (show w.heap.size < w5.heap.size ∧ w1.heap.size ≤ w5.heap.size from ⟨Nat.lt_of_lt_of_le (lt_of_block HG1.out) HB5.out.size, HB5.out.size⟩)
  clear c1 cp3 hb4 hb5 hg5 hb45 hb6 hg6 HRB
  have l6x := loadHd_at HX6.out rfl
  have l6y := loadHd_at HY6.out rfl
  go_wp2_with fail
  refine (newer_w h h _).mono ?_
  rintro e w7 ⟨rfl, hbn⟩
  have HB7 := Lib.hid (HB6.out.trans (hbn.mono HB6.out.size))
  have HX7 := Lib.hid (heap_below hbn (lt_of_block HX6.out) HX6.out)
  have HY7 := Lib.hid (heap_below hbn (lt_of_block HY6.out) HY6.out)
  have HH7 := Lib.hid (heap_below hbn (lt_of_block HH6.out) HH6.out)
  have l7x := loadHd_at HX7.out rfl
  have l7y := loadHd_at HY7.out rfl
  rw [newer_irr]
  clear hbn l6x l6y
  go_wp2_with fail
  refine (newer_w h h _).mono ?_
  rintro e w8 ⟨rfl, hbn⟩
  have HB8 := Lib.hid (HB7.out.trans (hbn.mono HB7.out.size))
  have HX8 := Lib.hid (heap_below hbn (lt_of_block HX7.out) HX7.out)
  have HY8 := Lib.hid (heap_below hbn (lt_of_block HY7.out) HY7.out)
  have HH8 := Lib.hid (heap_below hbn (lt_of_block HH7.out) HH7.out)
  have l8x := loadHd_at HX8.out rfl
  have l8y := loadHd_at HY8.out rfl
  rw [newer_irr]
  clear hbn l7x l7y
  go_wp2_with fail
  refine (newer_w h h _).mono ?_
  rintro e w9 ⟨rfl, hbn⟩
  have HB9 := Lib.hid (HB8.out.trans (hbn.mono HB8.out.size))
  have HX9 := Lib.hid (heap_below hbn (lt_of_block HX8.out) HX8.out)
  have HY9 := Lib.hid (heap_below hbn (lt_of_block HY8.out) HY8.out)
  have HH9 := Lib.hid (heap_below hbn (lt_of_block HH8.out) HH8.out)
  have l9x := loadHd_at HX9.out rfl
  have l9y := loadHd_at HY9.out rfl
  rw [newer_irr]
  clear hbn l8x l8y
  obtain ⟨wa, sta, hga, hba⟩ := put_b2 w9 false false
  have HBa := Lib.hid (HB9.out.trans (hba.mono HB9.out.size))
  have HHa := Lib.hid (heap_below hba (lt_of_block HH9.out) HH9.out)
  have HGa := Lib.hid hga
  have HLa := Lib.hid (HL1.out.below HBa.out)
  have HPa := Lib.hid (heap_below HBa.out (lt_of_block HG1.out) HG1.out)
  have la := loadHd_at HHa.out rfl
  have cpa : wa.cell? ⟨w.heap.size, 0, none⟩ = some (.pointer (some ⟨lb, 0, none⟩)) := cell_at HPa.out rfl
  have HWk := Lib.hid (badwalk_w wa lb ka kb (some M) (some N) h R w.heap.size w5.heap.size w9.heap.size HLa.out HLog.out HPa.out HHa.out)
  clear hba hga
  go_wp2_with fail
  refine HWk.out.mono ?_
  rintro e wb ⟨rfl, hbb⟩
  have HBb := Lib.hid (HBa.out.trans (hbb.mono HBa.out.size))
  have HGb := Lib.hid (heap_below hbb (lt_of_block HGa.out) HGa.out)
  have b0 : wb.cell? ⟨w9.heap.size, 0, none⟩ = some (.bool false) := cell_at HGb.out rfl
  have b1 : wb.cell? ⟨w9.heap.size, 1, none⟩ = some (.bool false) := cell_at HGb.out rfl
  clear hbb HWk la cpa st5 st6 sta
  go_upto_region 12 with fail
  go_quiet (fail)
  go_wp2_with fail
  refine bodyPost_ret (v := .tuple #[.bool false, .bool false]) (by simp [results, Tryz.f26, go_sem]) rfl ?_
  exact ⟨rfl, below_drewN (HB1.out.trans (HBb.out.mono HB1.out.size)) _⟩
set_option maxRecDepth 100000 in
set_option maxHeartbeats 8000000 in
theorem bad_sn (w : World) (lb : Nat) (ka kb : Bk) (M : Mm) (h : Hw) (R : List Rc) (hL : LgAt w lb ka kb (some M) none) (L : Log (some M) none h R) :
    Calls Tryz.prog 26 #[.pointer (some ⟨lb, 0, none⟩)] w fun e w' => e = .returned (.tuple #[.bool false, .bool true]) ∧ Below w.heap.size w w' := by
  obtain ⟨w1, hw1⟩ : ∃ w1, w1 = w.alloc (.cells #[.pointer (some ⟨lb, 0, none⟩)] 26) := ⟨_, rfl⟩
  have hg1 : w1.heap[w.heap.size]? = some (.cells #[.pointer (some ⟨lb, 0, none⟩)] 26 (0, 0)) := by rw [hw1]; exact heap_alloc_new _ _
  have hb1 : Below w.heap.size w w1 := by rw [hw1]; exact box_below0 _ _ _
  have HW := Lib.hid hw1
  have HG1 := Lib.hid hg1
  have HB1 := Lib.hid hb1
  have HL1 := Lib.hid (hL.below hb1)
  have HLog := Lib.hid L
  have c0 : w1.cell? ⟨lb, 0, none⟩ = some (.iface 25 (memV ka.p)) := cell_at HL1.out.row rfl
  have cp : w1.cell? ⟨w.heap.size, 0, none⟩ = some (.pointer (some ⟨lb, 0, none⟩)) := cell_at hg1 rfl
  have HRA := Lib.hid (fun (W : World) (h0 : LgAt W lb ka kb (some M) none) => show Calls Tryz.prog 48 #[.iface 25 (memV ka.p)] W fun e w' => e = .returned (.tuple #[.agg h.cs, .bool true]) ∧ Below W.heap.size W w' by
    have h := readHead_w W ka (some M) h0.a (fun M e => by cases e; have := (L.a _ rfl).1.len; have := L.ok.ok.n; omega)
    rw [hdC_is (L.a _ rfl).1 L.ok.ok ((L.a _ rfl).2.1 0)] at h
    exact h)
  have HRB := Lib.hid (fun (W : World) (h0 : LgAt W lb ka kb (some M) none) => show Calls Tryz.prog 48 #[.nilIface] W fun e w' => e = .returned (.tuple #[.agg hwZ.cs, .bool false]) ∧ Below W.heap.size W w' by
    have h := readHead_w W kb none h0.b (fun M e => by cases e)
    rw [show hdC none = none from rfl] at h
    exact h)
  clear hw1 hg1 hb1 hL L
  go_enter Tryz.func26, Tryz.ntmps26
  go_upto_region 1 with fail
  rw [← HW.out]
  go_wp2_with fail
  refine (HRA.out w1 HL1.out).mono ?_
  rintro e w2 ⟨rfl, hb2⟩
  obtain ⟨w3, st3, hg3, hb3⟩ := put_hd w2 h.cs rfl (by simp [Value.oneCell'])
  have HB3 := Lib.hid (hb2.trans (hb3.mono hb2.size))
  have HG3 := Lib.hid hg3
  have c1 : w3.cell? ⟨lb, 1, none⟩ = some (.nilIface) := cell_at (HL1.out.below HB3.out).row rfl
  have cp3 : w3.cell? ⟨w.heap.size, 0, none⟩ = some (.pointer (some ⟨lb, 0, none⟩)) := cell_at (heap_below HB3.out (lt_of_block HG1.out) HG1.out) rfl
  clear c0 cp hb2 hb3 hg3 HRA
  go_wp2_with fail
  clear st3
  refine (HRB.out w3 (HL1.out.below HB3.out)).mono ?_
  rintro e w4 ⟨rfl, hb4⟩
  obtain ⟨w5, st5, hg5, hb5⟩ := put_hd w4 hwZ.cs rfl (by simp [Value.oneCell'])
  have hb45 := hb4.trans (hb5.mono hb4.size)
  have HB5 := Lib.hid (HB3.out.trans (hb45.mono HB3.out.size))
  have HX5 := Lib.hid (heap_below hb45 (lt_of_block HG3.out) HG3.out)
  have HY5 := Lib.hid hg5
  have l5x := loadHd_at HX5.out rfl
  obtain ⟨w6, st6, hg6, hb6⟩ := put_hd w5 h.cs rfl (by simp [Value.oneCell'])
  have HB6 := Lib.hid (HB5.out.trans (hb6.mono HB5.out.size))
  have HX6 := Lib.hid (heap_below hb6 (lt_of_block HX5.out) HX5.out)
  have HY6 := Lib.hid (heap_below hb6 (lt_of_block HY5.out) HY5.out)
  have HH6 := Lib.hid hg6
  have HOr := Lib.hid (show w.heap.size < w5.heap.size ∧ w1.heap.size ≤ w5.heap.size from ⟨Nat.lt_of_lt_of_le (lt_of_block HG1.out) HB5.out.size, HB5.out.size⟩)
  clear c1 cp3 hb4 hb5 hg5 hb45 hb6 hg6 HRB
  have l6x := loadHd_at HX6.out rfl
  have l6y := loadHd_at HY6.out rfl
  obtain ⟨wa, sta, hga, hba⟩ := put_b2 w6 false true
  have HBa := Lib.hid (HB6.out.trans (hba.mono HB6.out.size))
  have HHa := Lib.hid (heap_below hba (lt_of_block HH6.out) HH6.out)
  have HGa := Lib.hid hga
  have HLa := Lib.hid (HL1.out.below HBa.out)
  have HPa := Lib.hid (heap_below HBa.out (lt_of_block HG1.out) HG1.out)
  have la := loadHd_at HHa.out rfl
  have cpa : wa.cell? ⟨w.heap.size, 0, none⟩ = some (.pointer (some ⟨lb, 0, none⟩)) := cell_at HPa.out rfl
  have HWk := Lib.hid (badwalk_w wa lb ka kb (some M) none h R w.heap.size w5.heap.size w6.heap.size HLa.out HLog.out HPa.out HHa.out)
  clear hba hga
  go_wp2_with fail
  refine HWk.out.mono ?_
  rintro e wb ⟨rfl, hbb⟩
  have HBb := Lib.hid (HBa.out.trans (hbb.mono HBa.out.size))
  have HGb := Lib.hid (heap_below hbb (lt_of_block HGa.out) HGa.out)
  have b0 : wb.cell? ⟨w6.heap.size, 0, none⟩ = some (.bool false) := cell_at HGb.out rfl
  have b1 : wb.cell? ⟨w6.heap.size, 1, none⟩ = some (.bool true) := cell_at HGb.out rfl
  clear hbb HWk la cpa st5 st6 sta
  go_upto_region 12 with fail
  go_quiet (fail)
  go_wp2_with fail
  refine bodyPost_ret (v := .tuple #[.bool false, .bool true]) (by simp [results, Tryz.f26, go_sem]) rfl ?_
  exact ⟨rfl, below_drewN (HB1.out.trans (HBb.out.mono HB1.out.size)) _⟩
set_option maxRecDepth 100000 in
set_option maxHeartbeats 8000000 in
theorem bad_ns (w : World) (lb : Nat) (ka kb : Bk) (N : Mm) (h : Hw) (R : List Rc) (hL : LgAt w lb ka kb none (some N)) (L : Log none (some N) h R) :
    Calls Tryz.prog 26 #[.pointer (some ⟨lb, 0, none⟩)] w fun e w' => e = .returned (.tuple #[.bool true, .bool false]) ∧ Below w.heap.size w w' := by
  obtain ⟨w1, hw1⟩ : ∃ w1, w1 = w.alloc (.cells #[.pointer (some ⟨lb, 0, none⟩)] 26) := ⟨_, rfl⟩
  have hg1 : w1.heap[w.heap.size]? = some (.cells #[.pointer (some ⟨lb, 0, none⟩)] 26 (0, 0)) := by rw [hw1]; exact heap_alloc_new _ _
  have hb1 : Below w.heap.size w w1 := by rw [hw1]; exact box_below0 _ _ _
  have HW := Lib.hid hw1
  have HG1 := Lib.hid hg1
  have HB1 := Lib.hid hb1
  have HL1 := Lib.hid (hL.below hb1)
  have HLog := Lib.hid L
  have c0 : w1.cell? ⟨lb, 0, none⟩ = some (.nilIface) := cell_at HL1.out.row rfl
  have cp : w1.cell? ⟨w.heap.size, 0, none⟩ = some (.pointer (some ⟨lb, 0, none⟩)) := cell_at hg1 rfl
  have HRA := Lib.hid (fun (W : World) (h0 : LgAt W lb ka kb none (some N)) => show Calls Tryz.prog 48 #[.nilIface] W fun e w' => e = .returned (.tuple #[.agg hwZ.cs, .bool false]) ∧ Below W.heap.size W w' by
    have h := readHead_w W ka none h0.a (fun M e => by cases e)
    rw [show hdC none = none from rfl] at h
    exact h)
  have HRB := Lib.hid (fun (W : World) (h0 : LgAt W lb ka kb none (some N)) => show Calls Tryz.prog 48 #[.iface 25 (memV kb.p)] W fun e w' => e = .returned (.tuple #[.agg h.cs, .bool true]) ∧ Below W.heap.size W w' by
    have h := readHead_w W kb (some N) h0.b (fun M e => by cases e; have := (L.b _ rfl).1.len; have := L.ok.ok.n; omega)
    rw [hdC_is (L.b _ rfl).1 L.ok.ok ((L.b _ rfl).2.1 0)] at h
    exact h)
  clear hw1 hg1 hb1 hL L
  go_enter Tryz.func26, Tryz.ntmps26
  go_upto_region 1 with fail
  rw [← HW.out]
  go_wp2_with fail
  refine (HRA.out w1 HL1.out).mono ?_
  rintro e w2 ⟨rfl, hb2⟩
  obtain ⟨w3, st3, hg3, hb3⟩ := put_hd w2 hwZ.cs rfl (by simp [Value.oneCell'])
  have HB3 := Lib.hid (hb2.trans (hb3.mono hb2.size))
  have HG3 := Lib.hid hg3
  have c1 : w3.cell? ⟨lb, 1, none⟩ = some (.iface 25 (memV kb.p)) := cell_at (HL1.out.below HB3.out).row rfl
  have cp3 : w3.cell? ⟨w.heap.size, 0, none⟩ = some (.pointer (some ⟨lb, 0, none⟩)) := cell_at (heap_below HB3.out (lt_of_block HG1.out) HG1.out) rfl
  clear c0 cp hb2 hb3 hg3 HRA
  go_wp2_with fail
  clear st3
  refine (HRB.out w3 (HL1.out.below HB3.out)).mono ?_
  rintro e w4 ⟨rfl, hb4⟩
  obtain ⟨w5, st5, hg5, hb5⟩ := put_hd w4 h.cs rfl (by simp [Value.oneCell'])
  have hb45 := hb4.trans (hb5.mono hb4.size)
  have HB5 := Lib.hid (HB3.out.trans (hb45.mono HB3.out.size))
  have HX5 := Lib.hid (heap_below hb45 (lt_of_block HG3.out) HG3.out)
  have HY5 := Lib.hid hg5
  have l5x := loadHd_at HX5.out rfl
  obtain ⟨w6, st6, hg6, hb6⟩ := put_hd w5 hwZ.cs rfl (by simp [Value.oneCell'])
  have HB6 := Lib.hid (HB5.out.trans (hb6.mono HB5.out.size))
  have HX6 := Lib.hid (heap_below hb6 (lt_of_block HX5.out) HX5.out)
  have HY6 := Lib.hid (heap_below hb6 (lt_of_block HY5.out) HY5.out)
  have HH6 := Lib.hid hg6
  have HOr := Lib.hid (show w.heap.size < w5.heap.size ∧ w1.heap.size ≤ w5.heap.size from ⟨Nat.lt_of_lt_of_le (lt_of_block HG1.out) HB5.out.size, HB5.out.size⟩)
  clear c1 cp3 hb4 hb5 hg5 hb45 hb6 hg6 HRB
  have l6x := loadHd_at HX6.out rfl
  have l6y := loadHd_at HY6.out rfl
  have st7 := storeHd_at (cs := h.cs) HH6.out rfl rfl (by simp [Value.oneCell'])
  obtain ⟨w7, hw7⟩ : ∃ w7, w7 = w6.setRow w5.heap.size h.cs := ⟨_, rfl⟩
  have HB7 := Lib.hid (show Below w1.heap.size w1 w7 by rw [hw7]; exact below_setRow HB6.out HOr.out.2 _)
  have HH7 := Lib.hid (show w7.heap[w5.heap.size]? = some (.cells h.cs 105 (0, 0)) by rw [hw7]; exact setRow_heap _ _ _ _ _ _ HH6.out)
  rw [← hw7] at st7
  clear hw7
  obtain ⟨wa, sta, hga, hba⟩ := put_b2 w7 true false
  have HBa := Lib.hid (HB7.out.trans (hba.mono HB7.out.size))
  have HHa := Lib.hid (heap_below hba (lt_of_block HH7.out) HH7.out)
  have HGa := Lib.hid hga
  have HLa := Lib.hid (HL1.out.below HBa.out)
  have HPa := Lib.hid (heap_below HBa.out (lt_of_block HG1.out) HG1.out)
  have la := loadHd_at HHa.out rfl
  have cpa : wa.cell? ⟨w.heap.size, 0, none⟩ = some (.pointer (some ⟨lb, 0, none⟩)) := cell_at HPa.out rfl
  have HWk := Lib.hid (badwalk_w wa lb ka kb none (some N) h R w.heap.size w5.heap.size w7.heap.size HLa.out HLog.out HPa.out HHa.out)
  clear hba hga
  go_wp2_with fail
  refine HWk.out.mono ?_
  rintro e wb ⟨rfl, hbb⟩
  have HBb := Lib.hid (HBa.out.trans (hbb.mono HBa.out.size))
  have HGb := Lib.hid (heap_below hbb (lt_of_block HGa.out) HGa.out)
  have b0 : wb.cell? ⟨w7.heap.size, 0, none⟩ = some (.bool true) := cell_at HGb.out rfl
  have b1 : wb.cell? ⟨w7.heap.size, 1, none⟩ = some (.bool false) := cell_at HGb.out rfl
  clear hbb HWk la cpa st5 st6 sta
  go_upto_region 12 with fail
  go_quiet (fail)
  go_wp2_with fail
  refine bodyPost_ret (v := .tuple #[.bool true, .bool false]) (by simp [results, Tryz.f26, go_sem]) rfl ?_
  exact ⟨rfl, below_drewN (HB1.out.trans (HBb.out.mono HB1.out.size)) _⟩
/-- Bad, of a log that stands: which copy is away. -/
theorem bad_l {w : World} {lb : Nat} {ka kb : Bk} {A B : Cp} {h : Hw} {R : List Rc} (hL : LgAt w lb ka kb A B) (L : Log A B h R) :
    Calls Tryz.prog 26 #[.pointer (some ⟨lb, 0, none⟩)] w fun e w' => e = .returned (.tuple #[.bool A.isNone, .bool B.isNone]) ∧ Below w.heap.size w w' := by
  have one := L.one
  match A, B, L with
  | none, none, _ => simp at one
  | some M, none, L => exact bad_sn w lb ka kb M h R hL L
  | none, some N, L => exact bad_ns w lb ka kb N h R hL L
  | some M, some N, L => exact bad_ss w lb ka kb M N h R hL L
end
end Go.Proofs.YtjpkdhnponcciaaGreatDoor

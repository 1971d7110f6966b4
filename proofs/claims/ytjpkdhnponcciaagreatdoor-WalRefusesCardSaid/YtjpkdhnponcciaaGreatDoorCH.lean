/-
  Walks: a record of the log. Condition: the log and its copies lie in memory; the head's numbers are in their bounds.
-/
import Derived.Test.YtjpkdhnponcciaaGreatDoorCG
namespace Go.Proofs.YtjpkdhnponcciaaGreatDoor
open Go.RowKit Go.Sort

/-- The copies have as many sectors as the head says. -/
structure HdFit (h : Hw) (A B : Cp) : Prop where
  n : 16 ≤ h.n ∧ h.n ≤ 4096
  a : ∀ M, A = some M → h.n ≤ M.secs.length
  b : ∀ M, B = some M → h.n ≤ M.secs.length
theorem getC_le {c : Cp} {k num idx len sum : Nat} {p : Pc} (h : getC c k num idx len sum = some p) : p.dat.length ≤ 96 ∧ p.len ≤ 1099511627776 ∧ p.sum ≤ 1099511627776 := by
  unfold getC at h
  obtain ⟨q, h1, h2⟩ := Option.bind_eq_some_iff.1 h
  split at h2
  · cases h2
    unfold pcC at h1
    obtain ⟨q, h1, h2⟩ := Option.bind_eq_some_iff.1 h1
    split at h2
    · cases h2
      obtain ⟨t, _, h3⟩ := Option.bind_eq_some_iff.1 h1
      unfold pcD at h3
      simp only at h3
      split at h3
      · cases h3
      · cases h3
        exact ⟨textR_le _ _ _, cntR_le _ _ _, cntR_le _ _ _⟩
    · cases h2
  · cases h2
theorem getV_le {A B : Cp} {k num idx len sum : Nat} {p : Pc} (h : getV A B k num idx len sum = some p) : p.dat.length ≤ 96 ∧ p.len ≤ 1099511627776 ∧ p.sum ≤ 1099511627776 := by
  unfold getV at h
  cases hg : getC A k num idx len sum with
  | some q => rw [hg] at h; cases h; exact getC_le hg
  | none => rw [hg] at h; exact getC_le h
/-- What record returns. -/
def RecE (r : Option (Rc × Nat)) (lo : Nat) (e : Ending) (W : World) : Prop := match r with
  | some (r, n) => ∃ a cap, e = .returned (.tuple #[.agg (lrC r.num r.unit a r.l.length cap), .int .i64 n, .int .i64 0]) ∧ ChRow W lo (.slice a r.l.length cap) r.l
  | none => e = .returned (.tuple #[.agg lrZ, .int .i64 0, .int .i64 11])
section
attribute [local go_sem ↓] loadHd_down storeHd_down loadPc_down storePc_down loadLr_down storeLr_down
set_option maxRecDepth 100000 in
set_option maxHeartbeats 16000000 in
theorem record_w (w : World) (lb : Nat) (ka kb : Bk) (A B : Cp) (h : Hw) (at0 num : Nat) (hL : LgAt w lb ka kb A B) (hf : HdFit h A B) (hat : 1 ≤ at0 ∧ at0 < h.n) :
    Calls Tryz.prog 91 #[.pointer (some ⟨lb, 0, none⟩), .agg h.cs, .int .i64 at0, .int .i64 num] w fun e w' => RecE (recW A B h at0 num) w.heap.size e w' ∧ Below w.heap.size w w' := by
  obtain ⟨w1, hw1⟩ : ∃ w1, w1 = (w.alloc (.cells h.cs 105)).alloc (.cells lrZ 50) := ⟨_, rfl⟩
  have hx : w1.heap[w.heap.size]? = some (.cells h.cs 105 (0, 0)) := by
    rw [hw1]; exact (halloc _ _ (by simp)).trans (heap_alloc_new w (.cells h.cs 105))
  have hy : w1.heap[w.heap.size + 1]? = some (.cells lrZ 50 (0, 0)) := by
    rw [hw1]
    have := heap_alloc_new (w.alloc (.cells h.cs 105)) (.cells lrZ 50)
    rwa [World.size_alloc] at this
  have hb1 : Below w.heap.size w w1 := by rw [hw1]; exact ((Below.refl _ w).alloc (Nat.le_refl _) _).alloc (by simp) _
  have HW := Lib.hid hw1
  have HX := Lib.hid hx
  have HY := Lib.hid hy
  have HB1 := Lib.hid hb1
  have HL1 := Lib.hid (hL.below hb1)
  have HF := Lib.hid hf
  have HN := Lib.hid hf.n
  have HR0 := Lib.hid (show recW A B h at0 num = match getV A B at0 num 0 0 0 with
    | none => none
    | some p => if 16384 < p.len then none else match moreW A B h at0 num p.len p.sum (cntW p.len - 1) 1 p.dat with
      | none => none
      | some s => match rcD s with
        | none => none
        | some r => if r.num = num ∧ sumN s = p.sum then some (r, cntW p.len) else none from rfl)
  have HG0 := Lib.hid (get_w w1 lb ka kb A B at0 num 0 pz HL1.out (fun M e => by have := hf.a M e; omega) (fun M e => by have := hf.b M e; omega))
  clear hw1 hx hy hb1 hL hf
  generalize recW A B h at0 num = rr at HR0 ⊢
  have stz := storeLr_at (cs := lrZ) HY.out rfl rfl (by simp [Value.oneCell'])
  have HFZ := Lib.hid (fun (W : World) (hb : Below w1.heap.size w1 W) => show (W.setRow (w.heap.size + 1) lrZ).heap[w.heap.size + 1]? = some (.cells lrZ 50 (0, 0)) ∧ Below w.heap.size w (W.setRow (w.heap.size + 1) lrZ) ∧ (storeLr ⟨w.heap.size + 1, 0, none⟩ (.agg lrZ)).run Tryz.prog W = .ok () (W.setRow (w.heap.size + 1) lrZ) from
    ⟨setRow_heap _ _ _ _ _ _ (heap_below hb (lt_of_block HY.out) HY.out), below_setRow (HB1.out.trans (hb.mono HB1.out.size)) (by omega) lrZ, storeLr_at (heap_below hb (lt_of_block HY.out) HY.out) rfl rfl (by simp [Value.oneCell'])⟩)
  clear stz
  go_enter Tryz.func91, Tryz.ntmps91
  go_upto_region 1 with fail
  rw [← HW.out]
  go_wp2_with fail
  have HG0 := Lib.hid (show Calls Tryz.prog 154 #[.pointer (some ⟨lb, 0, none⟩), .int .i64 at0, .int .i64 num, .int .i64 0, .agg pcZ] w1 fun e w' => e = .returned (.tuple (gtT (getV A B at0 num 0 0 0))) ∧ Below w1.heap.size w1 w' from HG0.out)
  cases hg0 : getV A B at0 num 0 0 0 with
  | none =>
    rw [hg0] at HR0 HG0
    unfold gtT at HG0
    refine HG0.out.mono ?_
    rintro e w2 ⟨rfl, hb2⟩
    have HRr := Lib.hid (show rr = none from HR0.out)
    obtain ⟨w3, st3, hg3, hb3⟩ := put_pc w2 pcZ rfl (by simp [Value.oneCell'])
    have hz := HFZ.out w3 (hb2.trans (hb3.mono hb2.size))
    have HZ := Lib.hid hz
    have stz := hz.2.2
    clear hb2 hb3 hg3 HFZ hz
    go_wp2_with fail
    (try simp only [Exit.inBlock, Exit.then])
    refine bodyPost_ret (results3 rfl _ rfl (loadLr_at HZ.out.1 rfl)) rfl ?_
    exact ⟨by unfold RecE; rw [HRr.out]; rfl, HZ.out.2.1⟩
  | some p =>
    obtain ⟨hp1, hp2, hp3⟩ := getV_le hg0
    rw [hg0] at HR0 HG0
    unfold gtT at HG0
    refine HG0.out.mono ?_
    rintro e w2 ⟨rfl, hb2⟩
    obtain ⟨w3, st3, hg3, hb3⟩ := put_pc w2 p.cs rfl (by simp [Value.oneCell'])
    have HB3 := Lib.hid (hb2.trans (hb3.mono hb2.size))
    have HP3 := Lib.hid hg3
    have p2 := cell_at (i := 2) (v := .int .i64 p.len) hg3 rfl
    have p4 := cell_at (i := 4) (v := .string ⟨p.dat.toArray⟩) hg3 rfl
    by_cases hbig : 16384 < p.len
    · have hbigI : (16384 : Int) < (p.len : Int) := by omega
      have HRr := Lib.hid (show rr = none by rw [HR0.out]; simp only; rw [if_pos hbig])
      have hz := HFZ.out w3 HB3.out
      have HZ := Lib.hid hz
      have stz := hz.2.2
      clear hb2 hb3 hg3 HFZ hz hbig p4
      go_wp2_with fail
      (try simp only [Exit.inBlock, Exit.then])
      refine bodyPost_ret (results3 rfl _ rfl (loadLr_at HZ.out.1 rfl)) rfl ?_
      exact ⟨by unfold RecE; rw [HRr.out]; rfl, HZ.out.2.1⟩
    have hbigI : ¬ (16384 : Int) < (p.len : Int) := by omega
    have HR1 := Lib.hid (show rr = match moreW A B h at0 num p.len p.sum (cntW p.len - 1) 1 p.dat with
      | none => none
      | some s => match rcD s with
        | none => none
        | some r => if r.num = num ∧ sumN s = p.sum then some (r, cntW p.len) else none by rw [HR0.out]; simp only; rw [if_neg hbig])
    have hcl := cntW_le (show p.len ≤ 16384 by omega)
    have HSz := Lib.hid (fun nq => show Calls Tryz.prog 77 #[.int .i64 p.len] (w3.drewN nq) fun e w' => e = .returned (.int .i64 (cntW p.len : Nat)) ∧ w' = w3.drewN nq from (size_w p.len (by omega) (w3.drewN nq)).mono fun e w' h => ⟨h.1, h.2.symm⟩)
    clear hb2 hb3 hg3 HR0 HG0 hbig
    generalize cntW p.len = N at HR1 HSz hcl
    go_wp2_with fail
    go_quiet (first | (go_at_call 77; exact Calls.quiet_of_same (HSz.out _)))
    go_wp2_with fail
    have HD3 := Lib.hid (fun nq => show Below w1.heap.size w1 (w3.drewN nq) from below_drewN HB3.out nq)
    generalize hmw : moreW A B h at0 num p.len p.sum (N - 1) 1 p.dat = mw at HR1
    go_loopw [13, 15] (fun s i wr => ∃ (j : Nat) (t : By), i = .int .i64 j ∧ s = .string ⟨t.toArray⟩ ∧ 1 ≤ j ∧ (j ≤ N ∨ j = 1) ∧ t.length ≤ 96 * j ∧ moreW A B h at0 num p.len p.sum (N - j) j t = mw ∧ Below w3.heap.size w3 wr) (fun _ i _ => (N + 2) - (intOf i).toNat)
    case atStart => exact ⟨1, p.dat, rfl, rfl, by omega, by omega, by omega, hmw, below_drewN (Below.refl _ _) _⟩
    case round =>
      obtain ⟨j, t, rfl, rfl, hj1, hj, htl, hmj, hb⟩ := hrel
      have HBr := Lib.hid hb
      have hbw := HB3.out.trans (hb.mono HB3.out.size)
      have HBw := Lib.hid hbw
      have hgp := heap_below hb (lt_of_block HP3.out) HP3.out
      have HPr := Lib.hid hgp
      have hgh := heap_below hbw (lt_of_block HX.out) HX.out
      have HHr := Lib.hid hgh
      clear hmw p2 p4
      by_cases hlt : j < N
      · have hltI : (j : Int) < (N : Int) := by omega
        have hpl := place_lt (h := h) (by have := HN.out; omega) at0 j
        have HGt := Lib.hid (fun (W : World) (hW : Below wr.heap.size wr W) => get_w W lb ka kb A B (h.place at0 j) num j p (HL1.out.below (hbw.trans (hW.mono hbw.size))) (fun M e => by have := HF.out.a M e; omega) (fun M e => by have := HF.out.b M e; omega))
        have hstep : moreW A B h at0 num p.len p.sum (N - j) j t = match getV A B (h.place at0 j) num j p.len p.sum with
          | none => none
          | some q => moreW A B h at0 num p.len p.sum (N - (j + 1)) (j + 1) (t ++ q.dat) := by
          rw [show N - j = N - (j + 1) + 1 by omega]; rfl
        rw [hstep] at hmj
        have HPlc := Lib.hid (fun (W : World) => place_w h HN.out at0 j ⟨hat.1, by have := HN.out; omega⟩ (by omega) W)
        have e0 := loadHd_at (w := wr.drew) hgh rfl
        have e1 := loadPc_at (w := wr.drew) hgp rfl
        clear hstep hb hbw hgp hgh
        generalize h.place at0 j = pl at HGt hmj HPlc
        cases hgv : getV A B pl num j p.len p.sum with
        | none =>
          rw [hgv] at HGt hmj
          unfold gtT at HGt
          have HRr := Lib.hid (show rr = none by rw [HR1.out, ← hmj])
          clear hgv hmj htl
          go_wp2_with fail
          have hal0 : Below wr.heap.size wr (wr.drew.alloc (.cells pcZ 261)) := below_drew1.alloc (Nat.le_refl _) _
          have hac0 : (wr.drew.alloc (.cells pcZ 261)).heap[wr.heap.size]? = some (.cells pcZ 261 (0, 0)) := heap_alloc_new wr.drew _
          have a0 := loadHd_at (heap_below hal0 (lt_of_block HHr.out) HHr.out) rfl
          have a1 := loadPc_at (heap_below hal0 (lt_of_block HPr.out) HPr.out) rfl
          have HAL0 := Lib.hid hal0
          have HAC0 := Lib.hid hac0
          clear hal0 hac0
          go_region_held3 (fun w' => (loadHd ⟨w.heap.size, 0, none⟩).run Tryz.prog w' = .ok (.agg h.cs) w' ∧ (loadPc ⟨w2.heap.size, 0, none⟩).run Tryz.prog w' = .ok (.agg p.cs) w') (first | exact ⟨k0, k1⟩ | exact ⟨j0, j1⟩ | exact ⟨i0, i1⟩ | exact ⟨g0, g1⟩ | exact ⟨f0, f1⟩ | exact ⟨a0, a1⟩ | exact ⟨e0, e1⟩ | fail)
            ((first
              | (go_at_call 54
                 refine (HPlc.out _).mono ?_
                 rintro e v2 ⟨rfl, hb2⟩
                 first
                   | (have HA2 := Lib.hid (show v2.heap[wr.heap.size]? = some (.cells pcZ 261 (0, 0)) from heap_below (n := (wr.drew.alloc (.cells pcZ 261)).heap.size) hb2 (lt_of_block HAC0.out) HAC0.out)
                      replace hb2 : Below wr.heap.size wr v2 := HAL0.out.trans (hb2.mono HAL0.out.size))
                   | replace hb2 : Below wr.heap.size wr v2 := below_drew1.trans hb2
                 have f0 := loadHd_at (heap_below hb2 (lt_of_block HHr.out) HHr.out) rfl
                 have f1 := loadPc_at (heap_below hb2 (lt_of_block HPr.out) HPr.out) rfl
                 have hal2 : Below wr.heap.size wr (v2.alloc (.cells pcZ 261)) := hb2.alloc hb2.size _
                 have g0 := loadHd_at (heap_below hal2 (lt_of_block HHr.out) HHr.out) rfl
                 have g1 := loadPc_at (heap_below hal2 (lt_of_block HPr.out) HPr.out) rfl
                 have HAC2 := Lib.hid (heap_alloc_new v2 (.cells pcZ 261))
                 have HAL2 := Lib.hid hal2
                 have HB2 := Lib.hid hb2
                 clear hb2 hal2)
              | (go_at_call 154
                 first
                   | (refine (HGt.out v2 HB2.out).mono ?_
                      rintro e v3 ⟨rfl, hb3⟩
                      have hrow := heap_below hb3 (lt_of_block HA2.out) HA2.out
                      replace hb3 := HB2.out.trans (hb3.mono HB2.out.size)
                      obtain ⟨v4, st4, hg4, hb4⟩ : ∃ W, (storePc ⟨wr.heap.size, 0, none⟩ (.agg (pcZ))).run Tryz.prog v3 = .ok () W ∧ W.heap[wr.heap.size]? = some (.cells (pcZ) 261 (0, 0)) ∧ Below wr.heap.size wr W :=
                        ⟨_, storePc_at (cs := pcZ) hrow rfl rfl (by simp [Value.oneCell']), setRow_heap _ _ _ _ _ _ hrow, below_setRow hb3 (Nat.le_refl _) _⟩
                      clear hrow)
                   | (refine (HGt.out v2 HB2.out).mono ?_
                      rintro e v3 ⟨rfl, hb3⟩
                      replace hb3 := HB2.out.trans (hb3.mono HB2.out.size)
                      have hal3 : Below wr.heap.size wr (v3.alloc (.cells pcZ 261)) := hb3.alloc hb3.size _
                      have j0 := loadHd_at (heap_below hal3 (lt_of_block HHr.out) HHr.out) rfl
                      have j1 := loadPc_at (heap_below hal3 (lt_of_block HPr.out) HPr.out) rfl
                      obtain ⟨v4, st4, hg4, hb4'⟩ := put_pc v3 pcZ rfl (by simp [Value.oneCell'])
                      have hb4 := hb3.trans (hb4'.mono hb3.size)
                      clear hal3 hb4')
                   | (refine (HGt.out _ HAL2.out).mono ?_
                      rintro e v3 ⟨rfl, hb3⟩
                      have hrow := heap_below hb3 (lt_of_block HAC2.out) HAC2.out
                      replace hb3 := HAL2.out.trans (hb3.mono HAL2.out.size)
                      obtain ⟨v4, st4, hg4, hb4⟩ : ∃ W, (storePc ⟨v2.heap.size, 0, none⟩ (.agg (pcZ))).run Tryz.prog v3 = .ok () W ∧ W.heap[v2.heap.size]? = some (.cells (pcZ) 261 (0, 0)) ∧ Below wr.heap.size wr W :=
                        ⟨_, storePc_at (cs := pcZ) hrow rfl rfl (by simp [Value.oneCell']), setRow_heap _ _ _ _ _ _ hrow, below_setRow hb3 HB2.out.size _⟩
                      clear hrow)
                 have i0 := loadHd_at (heap_below hb3 (lt_of_block HHr.out) HHr.out) rfl
                 have i1 := loadPc_at (heap_below hb3 (lt_of_block HPr.out) HPr.out) rfl
                 have k0 := loadHd_at (heap_below hb4 (lt_of_block HHr.out) HHr.out) rfl
                 have k1 := loadPc_at (heap_below hb4 (lt_of_block HPr.out) HPr.out) rfl
                 have HB4 := Lib.hid hb4
                 have HG4 := Lib.hid hg4
                 clear hb3 hb4 hg4)
              | fail))
          all_goals
            have hz := HFZ.out v4 (HBw.out.trans (HB4.out.mono HBw.out.size))
            have HZ := Lib.hid hz
            have stz := hz.2.2
            clear hz
            go_wp2_with fail
            (try simp only [Exit.inBlock, Exit.then])
            refine bodyPost_ret (results3 rfl _ rfl (loadLr_at HZ.out.1 rfl)) rfl ?_
            exact ⟨by unfold RecE; rw [HRr.out]; rfl, HZ.out.2.1⟩
        | some q =>
          rw [hgv] at HGt hmj
          unfold gtT at HGt
          obtain ⟨hq1, _, _⟩ := getV_le hgv
          have HMj := Lib.hid (show moreW A B h at0 num p.len p.sum (N - (j + 1)) (j + 1) (t ++ q.dat) = mw from hmj)
          clear hgv hmj
          go_wp2_with fail
          have hal0 : Below wr.heap.size wr (wr.drew.alloc (.cells pcZ 261)) := below_drew1.alloc (Nat.le_refl _) _
          have hac0 : (wr.drew.alloc (.cells pcZ 261)).heap[wr.heap.size]? = some (.cells pcZ 261 (0, 0)) := heap_alloc_new wr.drew _
          have a0 := loadHd_at (heap_below hal0 (lt_of_block HHr.out) HHr.out) rfl
          have a1 := loadPc_at (heap_below hal0 (lt_of_block HPr.out) HPr.out) rfl
          have HAL0 := Lib.hid hal0
          have HAC0 := Lib.hid hac0
          clear hal0 hac0
          go_region_held3 (fun w' => (loadHd ⟨w.heap.size, 0, none⟩).run Tryz.prog w' = .ok (.agg h.cs) w' ∧ (loadPc ⟨w2.heap.size, 0, none⟩).run Tryz.prog w' = .ok (.agg p.cs) w') (first | exact ⟨k0, k1⟩ | exact ⟨j0, j1⟩ | exact ⟨i0, i1⟩ | exact ⟨g0, g1⟩ | exact ⟨f0, f1⟩ | exact ⟨a0, a1⟩ | exact ⟨e0, e1⟩ | fail)
            ((first
              | (go_at_call 54
                 refine (HPlc.out _).mono ?_
                 rintro e v2 ⟨rfl, hb2⟩
                 first
                   | (have HA2 := Lib.hid (show v2.heap[wr.heap.size]? = some (.cells pcZ 261 (0, 0)) from heap_below (n := (wr.drew.alloc (.cells pcZ 261)).heap.size) hb2 (lt_of_block HAC0.out) HAC0.out)
                      replace hb2 : Below wr.heap.size wr v2 := HAL0.out.trans (hb2.mono HAL0.out.size))
                   | replace hb2 : Below wr.heap.size wr v2 := below_drew1.trans hb2
                 have f0 := loadHd_at (heap_below hb2 (lt_of_block HHr.out) HHr.out) rfl
                 have f1 := loadPc_at (heap_below hb2 (lt_of_block HPr.out) HPr.out) rfl
                 have hal2 : Below wr.heap.size wr (v2.alloc (.cells pcZ 261)) := hb2.alloc hb2.size _
                 have g0 := loadHd_at (heap_below hal2 (lt_of_block HHr.out) HHr.out) rfl
                 have g1 := loadPc_at (heap_below hal2 (lt_of_block HPr.out) HPr.out) rfl
                 have HAC2 := Lib.hid (heap_alloc_new v2 (.cells pcZ 261))
                 have HAL2 := Lib.hid hal2
                 have HB2 := Lib.hid hb2
                 clear hb2 hal2)
              | (go_at_call 154
                 first
                   | (refine (HGt.out v2 HB2.out).mono ?_
                      rintro e v3 ⟨rfl, hb3⟩
                      have hrow := heap_below hb3 (lt_of_block HA2.out) HA2.out
                      replace hb3 := HB2.out.trans (hb3.mono HB2.out.size)
                      obtain ⟨v4, st4, hg4, hb4⟩ : ∃ W, (storePc ⟨wr.heap.size, 0, none⟩ (.agg (q.cs))).run Tryz.prog v3 = .ok () W ∧ W.heap[wr.heap.size]? = some (.cells (q.cs) 261 (0, 0)) ∧ Below wr.heap.size wr W :=
                        ⟨_, storePc_at (cs := q.cs) hrow rfl rfl (by simp [Value.oneCell']), setRow_heap _ _ _ _ _ _ hrow, below_setRow hb3 (Nat.le_refl _) _⟩
                      clear hrow)
                   | (refine (HGt.out v2 HB2.out).mono ?_
                      rintro e v3 ⟨rfl, hb3⟩
                      replace hb3 := HB2.out.trans (hb3.mono HB2.out.size)
                      have hal3 : Below wr.heap.size wr (v3.alloc (.cells pcZ 261)) := hb3.alloc hb3.size _
                      have j0 := loadHd_at (heap_below hal3 (lt_of_block HHr.out) HHr.out) rfl
                      have j1 := loadPc_at (heap_below hal3 (lt_of_block HPr.out) HPr.out) rfl
                      obtain ⟨v4, st4, hg4, hb4'⟩ := put_pc v3 q.cs rfl (by simp [Value.oneCell'])
                      have hb4 := hb3.trans (hb4'.mono hb3.size)
                      clear hal3 hb4')
                   | (refine (HGt.out _ HAL2.out).mono ?_
                      rintro e v3 ⟨rfl, hb3⟩
                      have hrow := heap_below hb3 (lt_of_block HAC2.out) HAC2.out
                      replace hb3 := HAL2.out.trans (hb3.mono HAL2.out.size)
                      obtain ⟨v4, st4, hg4, hb4⟩ : ∃ W, (storePc ⟨v2.heap.size, 0, none⟩ (.agg (q.cs))).run Tryz.prog v3 = .ok () W ∧ W.heap[v2.heap.size]? = some (.cells (q.cs) 261 (0, 0)) ∧ Below wr.heap.size wr W :=
                        ⟨_, storePc_at (cs := q.cs) hrow rfl rfl (by simp [Value.oneCell']), setRow_heap _ _ _ _ _ _ hrow, below_setRow hb3 HB2.out.size _⟩
                      clear hrow)
                 have i0 := loadHd_at (heap_below hb3 (lt_of_block HHr.out) HHr.out) rfl
                 have i1 := loadPc_at (heap_below hb3 (lt_of_block HPr.out) HPr.out) rfl
                 have k0 := loadHd_at (heap_below hb4 (lt_of_block HHr.out) HHr.out) rfl
                 have k1 := loadPc_at (heap_below hb4 (lt_of_block HPr.out) HPr.out) rfl
                 have HB4 := Lib.hid hb4
                 have HG4 := Lib.hid hg4
                 clear hb3 hb4 hg4)
              | fail))
          all_goals
            have q4 := cell_at (i := 4) (v := .string ⟨q.dat.toArray⟩) HG4.out rfl
            go_wp2_with fail
            go_roundw
            case rel => exact ⟨j + 1, t ++ q.dat, by go_num, by first | rfl | simp, by omega, by omega, by rw [List.length_append]; omega, HMj.out, HBr.out.trans (HB4.out.mono HBr.out.size)⟩
            case measure => simp [intOf]; omega
      · have hltI : ¬ (j : Int) < (N : Int) := by omega
        have hmt : mw = some t := by rw [← hmj, show N - j = 0 by omega]; rfl
        have HR2 := Lib.hid (show rr = match rcD t with
          | none => none
          | some r => if r.num = num ∧ sumN t = p.sum then some (r, N) else none by rw [HR1.out, hmt])
        have htl2 : t.length ≤ 1000000 := by omega
        have HDc := Lib.hid (decode_w t wr htl2)
        have HSm := Lib.hid (fun (W : World) => show Calls Tryz.prog 94 #[.string ⟨t.toArray⟩] W fun e w' => e = .returned (.int .u32 (sumN t : Nat)) ∧ Below W.heap.size W w' from
          (Cs.sum_any ⟨t.toArray⟩ W (by show t.toArray.size ≤ maxLen; rw [List.size_toArray]; simp [maxLen]; omega)).mono fun e w' h => ⟨h.1, h.2⟩)
        clear hmj hmt HR1 hb hbw hgp hgh htl
        go_wp2_with fail
        refine HDc.out.mono ?_
        rintro e w4 ⟨hde, hb4⟩
        cases hrc : rcD t with
        | none =>
          unfold DecE at hde
          rw [hrc] at hde HR2
          obtain rfl := hde
          have HRr := Lib.hid (show rr = none from HR2.out)
          obtain ⟨w5, st5, hg5, hb5⟩ := put_lr w4 ⟨0, 0, none, 0, []⟩
          have HB5 := Lib.hid (HBw.out.trans ((hb4.trans (hb5.mono hb4.size)).mono HBw.out.size))
          have hz := HFZ.out w5.drew HB5.out.drew
          have HZ := Lib.hid hz
          have stz := hz.2.2
          have st5 : (storeLr ⟨w4.heap.size, 0, none⟩ (.agg lrZ)).run Tryz.prog (w4.alloc (.cells lrZ 50)) = .ok () w5 := st5
          have c0 : w5.drew.cell? ⟨w4.heap.size, 0, none⟩ = some (.int .i64 0) := cell_at (w := w5.drew) hg5 rfl
          have hp5 := heap_below (hb4.trans (hb5.mono hb4.size)) (lt_of_block HPr.out) HPr.out
          have c1 : w5.drew.cell? ⟨w2.heap.size, 3, none⟩ = some (.int .i64 p.sum) := cell_at (w := w5.drew) hp5 rfl
          clear hb4 hb5 hg5 hz hrc HDc hp5
          go_wp2_with fail
          refine wp_region_held_drew (S := fun w' => w'.cell? ⟨w4.heap.size, 0, none⟩ = some (.int .i64 0) ∧ w'.cell? ⟨w2.heap.size, 3, none⟩ = some (.int .i64 p.sum)) (by kernel_rfl) ⟨c0, c1⟩ (fun hHeld => ?_)
          refine take_at (i := 0) (v := .int .i64 11) (d := some 70) rfl rfl (by kernel_rfl) (by kernel_rfl) (by kernel_rfl) (fun _ _ _ h => h) (Or.inl ⟨by rfl, ?hyn0⟩) (by assumption) ?restn0
          case hyn0 =>
            intro W hSw
            (try dsimp only at hSw)
            go_simp
          try simp only [Act.put, List.setIfInBounds_toArray, List.set_cons_zero, List.set_cons_succ]
          refine take_at (i := 1) (v := .bool true) (d := some 71) rfl rfl (by kernel_rfl) (by kernel_rfl) (by kernel_rfl) (fun _ _ _ h => h) (Or.inl ⟨by rfl, ?hyn1⟩) (by assumption) ?restn1
          case hyn1 =>
            intro W hSw
            (try dsimp only at hSw)
            go_simp
          try simp only [Act.put, List.setIfInBounds_toArray, List.set_cons_zero, List.set_cons_succ]
          refine take_at (i := 2) (v := .bool true) (d := some 72) rfl rfl (by kernel_rfl) (by kernel_rfl) (by kernel_rfl) (fun _ _ _ h => h) (Or.inl ⟨by rfl, ?hyn2⟩) (by assumption) ?restn2
          case hyn2 =>
            intro W hSw
            (try dsimp only at hSw)
            go_simp
          try simp only [Act.put, List.setIfInBounds_toArray, List.set_cons_zero, List.set_cons_succ]
          refine take_at (i := 3) (v := undef) (d := some 73) rfl rfl (by kernel_rfl) (by kernel_rfl) (by kernel_rfl) (fun _ _ _ h => h) (Or.inr ⟨by rfl, rfl⟩) (by assumption) ?_
          try simp only [Act.put, List.setIfInBounds_toArray, List.set_cons_zero, List.set_cons_succ]
          refine take_at (i := 4) (v := undef) (d := some 74) rfl rfl (by kernel_rfl) (by kernel_rfl) (by kernel_rfl) (fun _ _ _ h => h) (Or.inr ⟨by rfl, rfl⟩) (by assumption) ?_
          try simp only [Act.put, List.setIfInBounds_toArray, List.set_cons_zero, List.set_cons_succ]
          refine take_at (i := 5) (v := undef) (d := some 75) rfl rfl (by kernel_rfl) (by kernel_rfl) (by kernel_rfl) (fun _ _ _ h => h) (Or.inr ⟨by rfl, rfl⟩) (by assumption) ?_
          try simp only [Act.put, List.setIfInBounds_toArray, List.set_cons_zero, List.set_cons_succ]
          refine take_at (i := 6) (v := undef) (d := some 76) rfl rfl (by kernel_rfl) (by kernel_rfl) (by kernel_rfl) (fun _ _ _ h => h) (Or.inr ⟨by rfl, rfl⟩) (by assumption) ?_
          try simp only [Act.put, List.setIfInBounds_toArray, List.set_cons_zero, List.set_cons_succ]
          refine take_at (i := 7) (v := .bool true) (d := some 77) rfl rfl (by kernel_rfl) (by kernel_rfl) (by kernel_rfl) (fun _ _ _ h => h) (Or.inl ⟨by rfl, ?hyn7⟩) (by assumption) ?restn7
          case hyn7 =>
            intro W hSw
            (try dsimp only at hSw)
            go_simp
          try simp only [Act.put, List.setIfInBounds_toArray, List.set_cons_zero, List.set_cons_succ]
          refine take_at (i := 8) (v := .bool true) (d := some 78) rfl rfl (by kernel_rfl) (by kernel_rfl) (by kernel_rfl) (fun _ _ _ h => h) (Or.inl ⟨by rfl, ?hyn8⟩) (by assumption) ?restn8
          case hyn8 =>
            intro W hSw
            (try dsimp only at hSw)
            go_simp
          try simp only [Act.put, List.setIfInBounds_toArray, List.set_cons_zero, List.set_cons_succ]
          refine take_at (i := 9) (v := undef) (d := some 79) rfl rfl (by kernel_rfl) (by kernel_rfl) (by kernel_rfl) (fun _ _ _ h => h) (Or.inr ⟨by rfl, rfl⟩) (by assumption) ?_
          try simp only [Act.put, List.setIfInBounds_toArray, List.set_cons_zero, List.set_cons_succ]
          refine take_at (i := 10) (v := undef) (d := some 80) rfl rfl (by kernel_rfl) (by kernel_rfl) (by kernel_rfl) (fun _ _ _ h => h) (Or.inr ⟨by rfl, rfl⟩) (by assumption) ?_
          try simp only [Act.put, List.setIfInBounds_toArray, List.set_cons_zero, List.set_cons_succ]
          refine take_at (i := 11) (v := undef) (d := some 81) rfl rfl (by kernel_rfl) (by kernel_rfl) (by kernel_rfl) (fun _ _ _ h => h) (Or.inr ⟨by rfl, rfl⟩) (by assumption) ?_
          try simp only [Act.put, List.setIfInBounds_toArray, List.set_cons_zero, List.set_cons_succ]
          refine take_at (i := 12) (v := undef) (d := some 82) rfl rfl (by kernel_rfl) (by kernel_rfl) (by kernel_rfl) (fun _ _ _ h => h) (Or.inr ⟨by rfl, rfl⟩) (by assumption) ?_
          try simp only [Act.put, List.setIfInBounds_toArray, List.set_cons_zero, List.set_cons_succ]
          refine take_at (i := 13) (v := undef) (d := some 83) rfl rfl (by kernel_rfl) (by kernel_rfl) (by kernel_rfl) (fun _ _ _ h => h) (Or.inr ⟨by rfl, rfl⟩) (by assumption) ?_
          try simp only [Act.put, List.setIfInBounds_toArray, List.set_cons_zero, List.set_cons_succ]
          refine take_at (i := 14) (v := undef) (d := some 84) rfl rfl (by kernel_rfl) (by kernel_rfl) (by kernel_rfl) (fun _ _ _ h => h) (Or.inr ⟨by rfl, rfl⟩) (by assumption) ?_
          try simp only [Act.put, List.setIfInBounds_toArray, List.set_cons_zero, List.set_cons_succ]
          refine take_at (i := 15) (v := .bool true) (d := some 85) rfl rfl (by kernel_rfl) (by kernel_rfl) (by kernel_rfl) (fun _ _ _ h => h) (Or.inl ⟨by rfl, ?hyn15⟩) (by assumption) ?restn15
          case hyn15 =>
            intro W hSw
            (try dsimp only at hSw)
            go_simp
          try simp only [Act.put, List.setIfInBounds_toArray, List.set_cons_zero, List.set_cons_succ]
          refine wpAnyH_done (by kernel_rfl) ?_ _
          go_wp2_with fail
          (try simp only [Exit.inBlock, Exit.then])
          refine bodyPost_ret (results3 rfl _ rfl (loadLr_at HZ.out.1 rfl)) rfl ?_
          exact ⟨by unfold RecE; rw [HRr.out]; rfl, HZ.out.2.1⟩
        | some r =>
          unfold DecE at hde
          rw [hrc] at hde HR2
          obtain ⟨a, cap, rfl, hrow⟩ := hde
          obtain ⟨w5, st5, hg5, hb5⟩ := put_lr w4 ⟨r.num, r.unit, a, cap, r.l⟩
          have st5 : (storeLr ⟨w4.heap.size, 0, none⟩ (.agg (lrC r.num r.unit a r.l.length cap))).run Tryz.prog (w4.alloc (.cells lrZ 50)) = .ok () w5 := st5
          have hg5 : w5.heap[w4.heap.size]? = some (.cells (lrC r.num r.unit a r.l.length cap) 50 (0, 0)) := hg5
          have HB5 := Lib.hid (HBw.out.trans ((hb4.trans (hb5.mono hb4.size)).mono HBw.out.size))
          have c0 : w5.drew.cell? ⟨w4.heap.size, 0, none⟩ = some (.int .i64 r.num) := cell_at (w := w5.drew) hg5 rfl
          have hp5 := heap_below (hb4.trans (hb5.mono hb4.size)) (lt_of_block HPr.out) HPr.out
          have c1 : w5.drew.cell? ⟨w2.heap.size, 3, none⟩ = some (.int .i64 p.sum) := cell_at (w := w5.drew) hp5 rfl
          have HG5 := Lib.hid hg5
          have HP5 := Lib.hid hp5
          have HRow := Lib.hid (hrow.below hb5)
          have HRb := Lib.hid (show ∀ k, (Value.slice a r.l.length cap).ownBlock = some k → wr.heap.size ≤ k from fun k hk => row_own hrow hk)
          clear hb4 hb5 hg5 hrc HDc hp5 hrow
          by_cases hnn : r.num = (num : Int)
          · have hsc : IntKind.i64.wrap ((sumN t : Nat) : Int) = ((sumN t : Nat) : Int) := IntWalk.i64_in _ (by have := sumN_lt t; omega)
            have g1 : (r.num != (num : Int)) = false := by rw [hnn]; simp
            have HNN := Lib.hid hnn
            clear hnn
            by_cases hsu : sumN t = p.sum
            · have g2 : (((sumN t : Nat) : Int) != (p.sum : Int)) = false := by rw [hsu]; simp
              have HRr := Lib.hid (show rr = some (r, N) by rw [HR2.out]; simp only; rw [if_pos ⟨HNN.out, hsu⟩])
              clear hsu
              go_wp2_with fail
              refine wp_region_held_drew (S := fun w' => w'.cell? ⟨w4.heap.size, 0, none⟩ = some (.int .i64 r.num) ∧ w'.cell? ⟨w2.heap.size, 3, none⟩ = some (.int .i64 p.sum)) (by kernel_rfl) ⟨c0, c1⟩ (fun hHeld => ?_)
              refine take_at (i := 0) (v := .int .i64 0) (d := some 70) rfl rfl (by kernel_rfl) (by kernel_rfl) (by kernel_rfl) (fun _ _ _ h => h) (Or.inl ⟨by rfl, ?hye0⟩) (by assumption) ?reste0
              case hye0 =>
                intro W hSw
                (try dsimp only at hSw)
                go_simp
              try simp only [Act.put, List.setIfInBounds_toArray, List.set_cons_zero, List.set_cons_succ]
              refine take_at (i := 1) (v := .bool false) (d := some 71) rfl rfl (by kernel_rfl) (by kernel_rfl) (by kernel_rfl) (fun _ _ _ h => h) (Or.inl ⟨by rfl, ?hye1⟩) (by assumption) ?reste1
              case hye1 =>
                intro W hSw
                (try dsimp only at hSw)
                go_simp
              try simp only [Act.put, List.setIfInBounds_toArray, List.set_cons_zero, List.set_cons_succ]
              refine take_at (i := 2) (v := .bool false) (d := some 72) rfl rfl (by kernel_rfl) (by kernel_rfl) (by kernel_rfl) (fun _ _ _ h => h) (Or.inl ⟨by rfl, ?hye2⟩) (by assumption) ?reste2
              case hye2 =>
                intro W hSw
                (try dsimp only at hSw)
                go_simp
              try simp only [Act.put, List.setIfInBounds_toArray, List.set_cons_zero, List.set_cons_succ]
              refine take_at (i := 3) (v := .pointer (some ⟨w4.heap.size, 0, none⟩)) (d := some 73) rfl rfl (by kernel_rfl) (by kernel_rfl) (by kernel_rfl) (fun _ _ _ h => h) (Or.inl ⟨by rfl, ?hye3⟩) (by assumption) ?reste3
              case hye3 =>
                intro W hSw
                (try dsimp only at hSw)
                go_simp
              try simp only [Act.put, List.setIfInBounds_toArray, List.set_cons_zero, List.set_cons_succ]
              refine take_at (i := 4) (v := .int .i64 r.num) (d := some 74) rfl rfl (by kernel_rfl) (by kernel_rfl) (by kernel_rfl) (fun _ _ _ h => h) (Or.inl ⟨by rfl, ?hye4⟩) (by assumption) ?reste4
              case hye4 =>
                intro W hSw
                (try dsimp only at hSw)
                go_simp
              try simp only [Act.put, List.setIfInBounds_toArray, List.set_cons_zero, List.set_cons_succ]
              refine take_at (i := 5) (v := .int .i64 num) (d := some 75) rfl rfl (by kernel_rfl) (by kernel_rfl) (by kernel_rfl) (fun _ _ _ h => h) (Or.inl ⟨by rfl, ?hye5⟩) (by assumption) ?reste5
              case hye5 =>
                intro W hSw
                (try dsimp only at hSw)
                go_simp
              try simp only [Act.put, List.setIfInBounds_toArray, List.set_cons_zero, List.set_cons_succ]
              refine take_at (i := 6) (v := .bool false) (d := some 76) rfl rfl (by kernel_rfl) (by kernel_rfl) (by kernel_rfl) (fun _ _ _ h => h) (Or.inl ⟨by rfl, ?hye6⟩) (by assumption) ?reste6
              case hye6 =>
                intro W hSw
                (try dsimp only at hSw)
                go_simp
              try simp only [Act.put, List.setIfInBounds_toArray, List.set_cons_zero, List.set_cons_succ]
              refine take_at (i := 7) (v := .bool false) (d := some 77) rfl rfl (by kernel_rfl) (by kernel_rfl) (by kernel_rfl) (fun _ _ _ h => h) (Or.inl ⟨by rfl, ?hye7⟩) (by assumption) ?reste7
              case hye7 =>
                intro W hSw
                (try dsimp only at hSw)
                go_simp
              try simp only [Act.put, List.setIfInBounds_toArray, List.set_cons_zero, List.set_cons_succ]
              refine take_at (i := 8) (v := .bool false) (d := some 78) rfl rfl (by kernel_rfl) (by kernel_rfl) (by kernel_rfl) (fun _ _ _ h => h) (Or.inl ⟨by rfl, ?hye8⟩) (by assumption) ?reste8
              case hye8 =>
                intro W hSw
                (try dsimp only at hSw)
                go_simp
              try simp only [Act.put, List.setIfInBounds_toArray, List.set_cons_zero, List.set_cons_succ]
              refine take_at (i := 9) (v := .string ⟨t.toArray⟩) (d := some 79) rfl rfl (by kernel_rfl) (by kernel_rfl) (by kernel_rfl) (fun _ _ _ h => h) (Or.inl ⟨by rfl, ?hye9⟩) (by assumption) ?reste9
              case hye9 =>
                intro W hSw
                (try dsimp only at hSw)
                go_simp
              try simp only [Act.put, List.setIfInBounds_toArray, List.set_cons_zero, List.set_cons_succ]
              refine take_at (i := 12) (v := .pointer (some ⟨w2.heap.size, 3, none⟩)) (d := some 82) rfl rfl (by kernel_rfl) (by kernel_rfl) (by kernel_rfl) (fun _ _ _ h => h) (Or.inl ⟨by rfl, ?hye12⟩) (by assumption) ?reste12
              case hye12 =>
                intro W hSw
                (try dsimp only at hSw)
                go_simp
              try simp only [Act.put, List.setIfInBounds_toArray, List.set_cons_zero, List.set_cons_succ]
              refine take_at (i := 13) (v := .int .i64 p.sum) (d := some 83) rfl rfl (by kernel_rfl) (by kernel_rfl) (by kernel_rfl) (fun _ _ _ h => h) (Or.inl ⟨by rfl, ?hye13⟩) (by assumption) ?reste13
              case hye13 =>
                intro W hSw
                (try dsimp only at hSw)
                go_simp
              try simp only [Act.put, List.setIfInBounds_toArray, List.set_cons_zero, List.set_cons_succ]
              refine wpAnyH_ready (rs := [10]) (by kernel_rfl) (by simp) ?_
              refine AllReadyH.cons rfl (fun K hK => ?_) AllReadyH.nil
              go_simp
              refine (HSm.out _).mono ?_
              rintro e w6 ⟨rfl, hb6⟩
              have HB6 := Lib.hid (show Below w5.heap.size w5 w6 from below_drew1.trans hb6)
              have d0 := cell_at (i := 0) (v := .int .i64 r.num) (heap_below HB6.out (lt_of_block HG5.out) HG5.out) rfl
              have d1 := cell_at (i := 3) (v := .int .i64 p.sum) (heap_below HB6.out (lt_of_block HP5.out) HP5.out) rfl
              clear hb6
              (try go_wp2_with fail)
              refine hK.out _ _ ⟨d0, d1⟩ (fun hHeld => ?_)
              clear hK K
              try simp only [Act.put, List.setIfInBounds_toArray, List.set_cons_zero, List.set_cons_succ]
              refine take_at (i := 11) (v := .int .i64 (sumN t : Nat)) (d := some 81) rfl rfl (by kernel_rfl) (by kernel_rfl) (by kernel_rfl) (fun _ _ _ h => h) (Or.inl ⟨by rfl, ?hye11⟩) (by assumption) ?reste11
              case hye11 =>
                intro W hSw
                (try dsimp only at hSw)
                go_simp
              try simp only [Act.put, List.setIfInBounds_toArray, List.set_cons_zero, List.set_cons_succ]
              refine take_at (i := 14) (v := .bool false) (d := some 84) rfl rfl (by kernel_rfl) (by kernel_rfl) (by kernel_rfl) (fun _ _ _ h => h) (Or.inl ⟨by rfl, ?hye14⟩) (by assumption) ?reste14
              case hye14 =>
                intro W hSw
                (try dsimp only at hSw)
                go_simp
              try simp only [Act.put, List.setIfInBounds_toArray, List.set_cons_zero, List.set_cons_succ]
              refine take_at (i := 15) (v := .bool false) (d := some 85) rfl rfl (by kernel_rfl) (by kernel_rfl) (by kernel_rfl) (fun _ _ _ h => h) (Or.inl ⟨by rfl, ?hye15⟩) (by assumption) ?reste15
              case hye15 =>
                intro W hSw
                (try dsimp only at hSw)
                go_simp
              try simp only [Act.put, List.setIfInBounds_toArray, List.set_cons_zero, List.set_cons_succ]
              refine wpAnyH_done (by kernel_rfl) ?_ _
              have hg6 := heap_below HB6.out (lt_of_block HG5.out) HG5.out
              have ld6 := loadLr_at hg6 rfl
              have HB16 := Lib.hid (HB5.out.trans (HB6.out.mono HB5.out.size))
              have hy6 := heap_below HB16.out (lt_of_block HY.out) HY.out
              have s6 := storeLr_at (cs := lrC r.num r.unit a r.l.length cap) hy6 rfl rfl (by simp [Value.oneCell'])
              have HG6 := Lib.hid (setRow_heap w6 (w.heap.size + 1) lrZ (lrC r.num r.unit a r.l.length cap) 50 (0, 0) hy6)
              have HBZ := Lib.hid (below_setRow (HB1.out.trans (HB16.out.mono HB1.out.size)) (show w.heap.size ≤ w.heap.size + 1 by omega) (lrC r.num r.unit a r.l.length cap))
              have HRz := Lib.hid (((HRow.out.below HB6.out).only (show Only [w.heap.size + 1] w6 (w6.setRow (w.heap.size + 1) (lrC r.num r.unit a r.l.length cap)) from (Only.refl _ _).setRow (Or.inl (by simp)) _) (fun k hk hm => by
                rw [List.mem_singleton] at hm
                have h1 := HRb.out k hk
                have h2 := lt_of_block HY.out
                have h3 := HBw.out.size
                omega)).mono (show w.heap.size ≤ wr.heap.size from Nat.le_trans HB1.out.size HBw.out.size))
              clear hg6 hy6
              go_wp2_with fail
              (try simp only [Exit.inBlock, Exit.then])
              refine bodyPost_ret (results3 rfl _ rfl (loadLr_at HG6.out rfl)) rfl ?_
              refine ⟨?_, HBZ.out⟩
              unfold RecE
              rw [HRr.out]
              exact ⟨a, cap, rfl, HRz.out⟩
            · have g2 : (((sumN t : Nat) : Int) != (p.sum : Int)) = true := by rw [bne_iff_ne]; omega
              have HRr := Lib.hid (show rr = none by rw [HR2.out]; simp only; rw [if_neg (fun h => hsu h.2)])
              clear hsu
              go_wp2_with fail
              refine wp_region_held_drew (S := fun w' => w'.cell? ⟨w4.heap.size, 0, none⟩ = some (.int .i64 r.num) ∧ w'.cell? ⟨w2.heap.size, 3, none⟩ = some (.int .i64 p.sum)) (by kernel_rfl) ⟨c0, c1⟩ (fun hHeld => ?_)
              refine take_at (i := 0) (v := .int .i64 0) (d := some 70) rfl rfl (by kernel_rfl) (by kernel_rfl) (by kernel_rfl) (fun _ _ _ h => h) (Or.inl ⟨by rfl, ?hys0⟩) (by assumption) ?rests0
              case hys0 =>
                intro W hSw
                (try dsimp only at hSw)
                go_simp
              try simp only [Act.put, List.setIfInBounds_toArray, List.set_cons_zero, List.set_cons_succ]
              refine take_at (i := 1) (v := .bool false) (d := some 71) rfl rfl (by kernel_rfl) (by kernel_rfl) (by kernel_rfl) (fun _ _ _ h => h) (Or.inl ⟨by rfl, ?hys1⟩) (by assumption) ?rests1
              case hys1 =>
                intro W hSw
                (try dsimp only at hSw)
                go_simp
              try simp only [Act.put, List.setIfInBounds_toArray, List.set_cons_zero, List.set_cons_succ]
              refine take_at (i := 2) (v := .bool false) (d := some 72) rfl rfl (by kernel_rfl) (by kernel_rfl) (by kernel_rfl) (fun _ _ _ h => h) (Or.inl ⟨by rfl, ?hys2⟩) (by assumption) ?rests2
              case hys2 =>
                intro W hSw
                (try dsimp only at hSw)
                go_simp
              try simp only [Act.put, List.setIfInBounds_toArray, List.set_cons_zero, List.set_cons_succ]
              refine take_at (i := 3) (v := .pointer (some ⟨w4.heap.size, 0, none⟩)) (d := some 73) rfl rfl (by kernel_rfl) (by kernel_rfl) (by kernel_rfl) (fun _ _ _ h => h) (Or.inl ⟨by rfl, ?hys3⟩) (by assumption) ?rests3
              case hys3 =>
                intro W hSw
                (try dsimp only at hSw)
                go_simp
              try simp only [Act.put, List.setIfInBounds_toArray, List.set_cons_zero, List.set_cons_succ]
              refine take_at (i := 4) (v := .int .i64 r.num) (d := some 74) rfl rfl (by kernel_rfl) (by kernel_rfl) (by kernel_rfl) (fun _ _ _ h => h) (Or.inl ⟨by rfl, ?hys4⟩) (by assumption) ?rests4
              case hys4 =>
                intro W hSw
                (try dsimp only at hSw)
                go_simp
              try simp only [Act.put, List.setIfInBounds_toArray, List.set_cons_zero, List.set_cons_succ]
              refine take_at (i := 5) (v := .int .i64 num) (d := some 75) rfl rfl (by kernel_rfl) (by kernel_rfl) (by kernel_rfl) (fun _ _ _ h => h) (Or.inl ⟨by rfl, ?hys5⟩) (by assumption) ?rests5
              case hys5 =>
                intro W hSw
                (try dsimp only at hSw)
                go_simp
              try simp only [Act.put, List.setIfInBounds_toArray, List.set_cons_zero, List.set_cons_succ]
              refine take_at (i := 6) (v := .bool false) (d := some 76) rfl rfl (by kernel_rfl) (by kernel_rfl) (by kernel_rfl) (fun _ _ _ h => h) (Or.inl ⟨by rfl, ?hys6⟩) (by assumption) ?rests6
              case hys6 =>
                intro W hSw
                (try dsimp only at hSw)
                go_simp
              try simp only [Act.put, List.setIfInBounds_toArray, List.set_cons_zero, List.set_cons_succ]
              refine take_at (i := 7) (v := .bool false) (d := some 77) rfl rfl (by kernel_rfl) (by kernel_rfl) (by kernel_rfl) (fun _ _ _ h => h) (Or.inl ⟨by rfl, ?hys7⟩) (by assumption) ?rests7
              case hys7 =>
                intro W hSw
                (try dsimp only at hSw)
                go_simp
              try simp only [Act.put, List.setIfInBounds_toArray, List.set_cons_zero, List.set_cons_succ]
              refine take_at (i := 8) (v := .bool false) (d := some 78) rfl rfl (by kernel_rfl) (by kernel_rfl) (by kernel_rfl) (fun _ _ _ h => h) (Or.inl ⟨by rfl, ?hys8⟩) (by assumption) ?rests8
              case hys8 =>
                intro W hSw
                (try dsimp only at hSw)
                go_simp
              try simp only [Act.put, List.setIfInBounds_toArray, List.set_cons_zero, List.set_cons_succ]
              refine take_at (i := 9) (v := .string ⟨t.toArray⟩) (d := some 79) rfl rfl (by kernel_rfl) (by kernel_rfl) (by kernel_rfl) (fun _ _ _ h => h) (Or.inl ⟨by rfl, ?hys9⟩) (by assumption) ?rests9
              case hys9 =>
                intro W hSw
                (try dsimp only at hSw)
                go_simp
              try simp only [Act.put, List.setIfInBounds_toArray, List.set_cons_zero, List.set_cons_succ]
              refine take_at (i := 12) (v := .pointer (some ⟨w2.heap.size, 3, none⟩)) (d := some 82) rfl rfl (by kernel_rfl) (by kernel_rfl) (by kernel_rfl) (fun _ _ _ h => h) (Or.inl ⟨by rfl, ?hys12⟩) (by assumption) ?rests12
              case hys12 =>
                intro W hSw
                (try dsimp only at hSw)
                go_simp
              try simp only [Act.put, List.setIfInBounds_toArray, List.set_cons_zero, List.set_cons_succ]
              refine take_at (i := 13) (v := .int .i64 p.sum) (d := some 83) rfl rfl (by kernel_rfl) (by kernel_rfl) (by kernel_rfl) (fun _ _ _ h => h) (Or.inl ⟨by rfl, ?hys13⟩) (by assumption) ?rests13
              case hys13 =>
                intro W hSw
                (try dsimp only at hSw)
                go_simp
              try simp only [Act.put, List.setIfInBounds_toArray, List.set_cons_zero, List.set_cons_succ]
              refine wpAnyH_ready (rs := [10]) (by kernel_rfl) (by simp) ?_
              refine AllReadyH.cons rfl (fun K hK => ?_) AllReadyH.nil
              go_simp
              refine (HSm.out _).mono ?_
              rintro e w6 ⟨rfl, hb6⟩
              have HB6 := Lib.hid (show Below w5.heap.size w5 w6 from below_drew1.trans hb6)
              have d0 := cell_at (i := 0) (v := .int .i64 r.num) (heap_below HB6.out (lt_of_block HG5.out) HG5.out) rfl
              have d1 := cell_at (i := 3) (v := .int .i64 p.sum) (heap_below HB6.out (lt_of_block HP5.out) HP5.out) rfl
              clear hb6
              (try go_wp2_with fail)
              refine hK.out _ _ ⟨d0, d1⟩ (fun hHeld => ?_)
              clear hK K
              try simp only [Act.put, List.setIfInBounds_toArray, List.set_cons_zero, List.set_cons_succ]
              refine take_at (i := 11) (v := .int .i64 (sumN t : Nat)) (d := some 81) rfl rfl (by kernel_rfl) (by kernel_rfl) (by kernel_rfl) (fun _ _ _ h => h) (Or.inl ⟨by rfl, ?hys11⟩) (by assumption) ?rests11
              case hys11 =>
                intro W hSw
                (try dsimp only at hSw)
                go_simp
              try simp only [Act.put, List.setIfInBounds_toArray, List.set_cons_zero, List.set_cons_succ]
              refine take_at (i := 14) (v := .bool true) (d := some 84) rfl rfl (by kernel_rfl) (by kernel_rfl) (by kernel_rfl) (fun _ _ _ h => h) (Or.inl ⟨by rfl, ?hys14⟩) (by assumption) ?rests14
              case hys14 =>
                intro W hSw
                (try dsimp only at hSw)
                go_simp
              try simp only [Act.put, List.setIfInBounds_toArray, List.set_cons_zero, List.set_cons_succ]
              refine take_at (i := 15) (v := .bool true) (d := some 85) rfl rfl (by kernel_rfl) (by kernel_rfl) (by kernel_rfl) (fun _ _ _ h => h) (Or.inl ⟨by rfl, ?hys15⟩) (by assumption) ?rests15
              case hys15 =>
                intro W hSw
                (try dsimp only at hSw)
                go_simp
              try simp only [Act.put, List.setIfInBounds_toArray, List.set_cons_zero, List.set_cons_succ]
              refine wpAnyH_done (by kernel_rfl) ?_ _
              have hz := HFZ.out w6 (HB5.out.trans (HB6.out.mono HB5.out.size))
              have HZ := Lib.hid hz
              have stz := hz.2.2
              clear hz
              go_wp2_with fail
              (try simp only [Exit.inBlock, Exit.then])
              refine bodyPost_ret (results3 rfl _ rfl (loadLr_at HZ.out.1 rfl)) rfl ?_
              exact ⟨by unfold RecE; rw [HRr.out]; rfl, HZ.out.2.1⟩
          · have g1 : (r.num != (num : Int)) = true := by rw [bne_iff_ne]; exact hnn
            have HRr := Lib.hid (show rr = none by rw [HR2.out]; simp only; rw [if_neg (fun h => hnn h.1)])
            have hz := HFZ.out w5.drew HB5.out.drew
            have HZ := Lib.hid hz
            have stz := hz.2.2
            clear hnn hz
            go_wp2_with fail
            refine wp_region_held_drew (S := fun w' => w'.cell? ⟨w4.heap.size, 0, none⟩ = some (.int .i64 r.num) ∧ w'.cell? ⟨w2.heap.size, 3, none⟩ = some (.int .i64 p.sum)) (by kernel_rfl) ⟨c0, c1⟩ (fun hHeld => ?_)
            refine take_at (i := 0) (v := .int .i64 0) (d := some 70) rfl rfl (by kernel_rfl) (by kernel_rfl) (by kernel_rfl) (fun _ _ _ h => h) (Or.inl ⟨by rfl, ?hym0⟩) (by assumption) ?restm0
            case hym0 =>
              intro W hSw
              (try dsimp only at hSw)
              go_simp
            try simp only [Act.put, List.setIfInBounds_toArray, List.set_cons_zero, List.set_cons_succ]
            refine take_at (i := 1) (v := .bool false) (d := some 71) rfl rfl (by kernel_rfl) (by kernel_rfl) (by kernel_rfl) (fun _ _ _ h => h) (Or.inl ⟨by rfl, ?hym1⟩) (by assumption) ?restm1
            case hym1 =>
              intro W hSw
              (try dsimp only at hSw)
              go_simp
            try simp only [Act.put, List.setIfInBounds_toArray, List.set_cons_zero, List.set_cons_succ]
            refine take_at (i := 2) (v := .bool false) (d := some 72) rfl rfl (by kernel_rfl) (by kernel_rfl) (by kernel_rfl) (fun _ _ _ h => h) (Or.inl ⟨by rfl, ?hym2⟩) (by assumption) ?restm2
            case hym2 =>
              intro W hSw
              (try dsimp only at hSw)
              go_simp
            try simp only [Act.put, List.setIfInBounds_toArray, List.set_cons_zero, List.set_cons_succ]
            refine take_at (i := 3) (v := .pointer (some ⟨w4.heap.size, 0, none⟩)) (d := some 73) rfl rfl (by kernel_rfl) (by kernel_rfl) (by kernel_rfl) (fun _ _ _ h => h) (Or.inl ⟨by rfl, ?hym3⟩) (by assumption) ?restm3
            case hym3 =>
              intro W hSw
              (try dsimp only at hSw)
              go_simp
            try simp only [Act.put, List.setIfInBounds_toArray, List.set_cons_zero, List.set_cons_succ]
            refine take_at (i := 4) (v := .int .i64 r.num) (d := some 74) rfl rfl (by kernel_rfl) (by kernel_rfl) (by kernel_rfl) (fun _ _ _ h => h) (Or.inl ⟨by rfl, ?hym4⟩) (by assumption) ?restm4
            case hym4 =>
              intro W hSw
              (try dsimp only at hSw)
              go_simp
            try simp only [Act.put, List.setIfInBounds_toArray, List.set_cons_zero, List.set_cons_succ]
            refine take_at (i := 5) (v := .int .i64 num) (d := some 75) rfl rfl (by kernel_rfl) (by kernel_rfl) (by kernel_rfl) (fun _ _ _ h => h) (Or.inl ⟨by rfl, ?hym5⟩) (by assumption) ?restm5
            case hym5 =>
              intro W hSw
              (try dsimp only at hSw)
              go_simp
            try simp only [Act.put, List.setIfInBounds_toArray, List.set_cons_zero, List.set_cons_succ]
            refine take_at (i := 6) (v := .bool true) (d := some 76) rfl rfl (by kernel_rfl) (by kernel_rfl) (by kernel_rfl) (fun _ _ _ h => h) (Or.inl ⟨by rfl, ?hym6⟩) (by assumption) ?restm6
            case hym6 =>
              intro W hSw
              (try dsimp only at hSw)
              go_simp
            try simp only [Act.put, List.setIfInBounds_toArray, List.set_cons_zero, List.set_cons_succ]
            refine take_at (i := 7) (v := .bool true) (d := some 77) rfl rfl (by kernel_rfl) (by kernel_rfl) (by kernel_rfl) (fun _ _ _ h => h) (Or.inl ⟨by rfl, ?hym7⟩) (by assumption) ?restm7
            case hym7 =>
              intro W hSw
              (try dsimp only at hSw)
              go_simp
            try simp only [Act.put, List.setIfInBounds_toArray, List.set_cons_zero, List.set_cons_succ]
            refine take_at (i := 8) (v := .bool true) (d := some 78) rfl rfl (by kernel_rfl) (by kernel_rfl) (by kernel_rfl) (fun _ _ _ h => h) (Or.inl ⟨by rfl, ?hym8⟩) (by assumption) ?restm8
            case hym8 =>
              intro W hSw
              (try dsimp only at hSw)
              go_simp
            try simp only [Act.put, List.setIfInBounds_toArray, List.set_cons_zero, List.set_cons_succ]
            refine take_at (i := 9) (v := undef) (d := some 79) rfl rfl (by kernel_rfl) (by kernel_rfl) (by kernel_rfl) (fun _ _ _ h => h) (Or.inr ⟨by rfl, rfl⟩) (by assumption) ?_
            try simp only [Act.put, List.setIfInBounds_toArray, List.set_cons_zero, List.set_cons_succ]
            refine take_at (i := 10) (v := undef) (d := some 80) rfl rfl (by kernel_rfl) (by kernel_rfl) (by kernel_rfl) (fun _ _ _ h => h) (Or.inr ⟨by rfl, rfl⟩) (by assumption) ?_
            try simp only [Act.put, List.setIfInBounds_toArray, List.set_cons_zero, List.set_cons_succ]
            refine take_at (i := 11) (v := undef) (d := some 81) rfl rfl (by kernel_rfl) (by kernel_rfl) (by kernel_rfl) (fun _ _ _ h => h) (Or.inr ⟨by rfl, rfl⟩) (by assumption) ?_
            try simp only [Act.put, List.setIfInBounds_toArray, List.set_cons_zero, List.set_cons_succ]
            refine take_at (i := 12) (v := undef) (d := some 82) rfl rfl (by kernel_rfl) (by kernel_rfl) (by kernel_rfl) (fun _ _ _ h => h) (Or.inr ⟨by rfl, rfl⟩) (by assumption) ?_
            try simp only [Act.put, List.setIfInBounds_toArray, List.set_cons_zero, List.set_cons_succ]
            refine take_at (i := 13) (v := undef) (d := some 83) rfl rfl (by kernel_rfl) (by kernel_rfl) (by kernel_rfl) (fun _ _ _ h => h) (Or.inr ⟨by rfl, rfl⟩) (by assumption) ?_
            try simp only [Act.put, List.setIfInBounds_toArray, List.set_cons_zero, List.set_cons_succ]
            refine take_at (i := 14) (v := undef) (d := some 84) rfl rfl (by kernel_rfl) (by kernel_rfl) (by kernel_rfl) (fun _ _ _ h => h) (Or.inr ⟨by rfl, rfl⟩) (by assumption) ?_
            try simp only [Act.put, List.setIfInBounds_toArray, List.set_cons_zero, List.set_cons_succ]
            refine take_at (i := 15) (v := .bool true) (d := some 85) rfl rfl (by kernel_rfl) (by kernel_rfl) (by kernel_rfl) (fun _ _ _ h => h) (Or.inl ⟨by rfl, ?hym15⟩) (by assumption) ?restm15
            case hym15 =>
              intro W hSw
              (try dsimp only at hSw)
              go_simp
            try simp only [Act.put, List.setIfInBounds_toArray, List.set_cons_zero, List.set_cons_succ]
            refine wpAnyH_done (by kernel_rfl) ?_ _
            go_wp2_with fail
            (try simp only [Exit.inBlock, Exit.then])
            refine bodyPost_ret (results3 rfl _ rfl (loadLr_at HZ.out.1 rfl)) rfl ?_
            exact ⟨by unfold RecE; rw [HRr.out]; rfl, HZ.out.2.1⟩
end

end Go.Proofs.YtjpkdhnponcciaaGreatDoor

/-
  Walks: the validity of a description of a cluster, by the program. No condition. Walks: the validity of a description of a cluster, by the reference. No condition.
-/
import Derived.Test.YtcefkngblddpoaaGreatDoorG2
import Derived.Test.YtcefkngblddpoaaGreatDoorG3
import Derived.Deep.DeepCutAuto
namespace Go.Proofs.YtcefkngblddpoaaGreatDoor
set_option maxRecDepth 100000
set_option maxHeartbeats 4000000
section
open Go.RowKit Go.Sort
variable {z : Rest}
def ivlP (n : Int) : Bool := decide (n = 128) || decide (n = 256) || decide (n = 512)
def capL (n : Int) : Int := if n - 7 < 200 then n - 7 else 200
/-- Whether a description of a cluster is valid. -/
def kvalP (z : Rest) (org fmt len blk : Int) : Bool :=
 ivlP z.ivl && inP org 1 3 && inP len 1 (capL z.ivl) && zerosP [fmt, blk] &&
  (if org = 3 then decide (len ≤ z.ivl / 2 - 8) && inP z.kat 0 len && inP z.klen 1 (z.ivl / 16) && decide (z.kat + z.klen ≤ len) && inP z.area 2 8 && inP z.fivl 0 90 && inP z.fare 0 (z.area - 1)
   else zerosP [z.kat, z.klen, z.area, z.fivl, z.fare])
def knownN (n : Int) : Nat → Bool
 | 0 => false
 | 1 => decide (n = 128)
 | 2 => decide (n = 128) || decide (n = 256)
 | _ => ivlP n
theorem kvalid_any (org fmt len blk : Int) (w : World) : Calls Tryz.prog 216 #[.agg (dsv z org fmt len blk)] w fun e w' => e = .returned (.bool (kvalP z org fmt len blk)) ∧ Below w.heap.size w w' := by
 have HB := Lib.hid (two_below w (dsv z org fmt len blk) #[.int .i64 128, .int .i64 256, .int .i64 512] 45 319)
 have h7 : ((w.alloc (.cells (dsv z org fmt len blk) 45)).alloc (.cells #[.int .i64 128, .int .i64 256, .int .i64 512] 319)).heap[w.heap.size]? = some (.cells (dsv z org fmt len blk) 45 (0, 0)) := by
  rw [halloc _ _ (by simp)]; exact heap_alloc_new w _
 have HD := Lib.hid h7
 clear h7
 go_enter Tryz.func216, Tryz.ntmps216
 go_wp2_with fail
 generalize (w.alloc (.cells (dsv z org fmt len blk) 45)).alloc (.cells #[.int .i64 128, .int .i64 256, .int .i64 512] 319) = w1 at HB HD ⊢
 go_loopw [4, 9] (fun kn k wr => ∃ j : Nat, j ≤ 3 ∧ k = .int .i64 j ∧ kn = .bool (knownN z.ivl j) ∧ wr = w1) (fun _ k _ => 3 - (intOf k).toNat)
 case atStart => exact ⟨0, by omega, rfl, rfl, rfl⟩
 case round =>
  obtain ⟨j, hj, rfl, rfl, rfl⟩ := hrel
  have hc7 := cell_at (i := 7) (v := .int .i64 z.ivl) HD.out rfl
  by_cases hj3 : j < 3
  · have hn1 : IntKind.i64.wrap ((j : Int) + 1) = ((j + 1 : Nat) : Int) := IntWalk.i64_in _ (by omega)
    obtain ⟨cv, hix, hkn⟩ : ∃ cv : Int, (∀ W, (Instr.index 319 (.agg #[.int .i64 128, .int .i64 256, .int .i64 512]) (.int .i64 (j : Int))).run Tryz.prog W = .ok (.int .i64 cv) W) ∧ knownN z.ivl (j + 1) = (knownN z.ivl j || decide (z.ivl = cv)) := by
     match j, hj3 with
     | 0, _ => exact ⟨128, fun _ => by kernel_rfl, by simp [knownN]⟩
     | 1, _ => exact ⟨256, fun _ => by kernel_rfl, by simp [knownN]⟩
     | 2, _ => exact ⟨512, fun _ => by kernel_rfl, by simp [knownN, ivlP]⟩
    have HKN := Lib.hid hkn
    clear hkn
    have hlt : (j : Int) < 3 := by omega
    cases hk : knownN z.ivl j
    · rw [hk] at HKN
      have HE := Lib.hid (show (Value.bool (z.ivl == cv)) = Value.bool (knownN z.ivl (j + 1)) by rw [HKN.out, Bool.false_or]; congr 1)
      clear hk
      go_wp2_with fail
      go_roundw
      case rel => exact ⟨j + 1, by omega, by go_num, HE.out, trivial⟩
      case measure => simp [intOf]; omega
    · rw [hk] at HKN
      clear hk
      go_wp2_with fail
      go_roundw
      case rel => exact ⟨j + 1, by omega, by go_num, by rw [HKN.out]; rfl, trivial⟩
      case measure => simp [intOf]; omega
  · obtain rfl : j = 3 := by omega
    have c1 := cell_at (i := 1) (v := .int .i64 org) HD.out rfl
    have c2 := cell_at (i := 2) (v := .int .i64 fmt) HD.out rfl
    have c3 := cell_at (i := 3) (v := .int .i64 len) HD.out rfl
    have c4 := cell_at (i := 4) (v := .int .i64 blk) HD.out rfl
    have hkq : knownN z.ivl 3 = ivlP z.ivl := rfl
    rw [hkq]
    clear hkq
    cases hk : ivlP z.ivl
    · have HK := Lib.hid hk
      clear hk
      go_wp2_with fail
      go_ret
      exact ⟨by unfold kvalP; rw [HK.out]; rfl, HB.out⟩
    · have hiv : 128 ≤ z.ivl ∧ z.ivl ≤ 512 := by simp [ivlP] at hk; omega
      have HK := Lib.hid hk
      clear hk
      obtain ⟨hv1, hv2⟩ := hiv
      have hw7 : IntKind.i64.wrap (z.ivl - 7) = z.ivl - 7 := IntWalk.i64_in _ (by omega)
      cases ho : inP org 1 3
      · have HO := Lib.hid ho
        clear ho
        go_wp2_with fail
        refine (within_any org 1 3 _).mono ?_
        rintro e w2 ⟨rfl, rfl⟩
        rw [HO.out]
        go_wp2_with fail
        go_ret
        exact ⟨by unfold kvalP; rw [HK.out, HO.out]; rfl, HB.out⟩
      · have HO := Lib.hid ho
        clear ho
        have hm0 : (if z.ivl - 7 < 200 then z.ivl - 7 else 200) = capL z.ivl := rfl
        have hm1 : capL z.ivl ≤ 200 := by unfold capL; split <;> omega
        obtain ⟨mm, hmm⟩ : ∃ mm, capL z.ivl = mm := ⟨_, rfl⟩
        rw [hmm] at hm0 hm1
        have HM := Lib.hid hmm
        clear hmm
        cases hl : inP len 1 mm
        · have HL := Lib.hid hl
          clear hl
          go_wp2_with fail
          refine (within_any org 1 3 _).mono ?_
          rintro e w2 ⟨rfl, rfl⟩
          rw [HO.out]
          go_wp2_with fail
          refine (within_any len 1 _ _).mono ?_
          rintro e w2 ⟨rfl, rfl⟩
          rw [HL.out]
          go_wp2_with fail
          go_ret
          exact ⟨by unfold kvalP; rw [HK.out, HO.out, HM.out, HL.out]; rfl, HB.out⟩
        · have hlen : 1 ≤ len ∧ len ≤ 200 := by simp [inP] at hl; omega
          obtain ⟨hlen1, hlen2⟩ := hlen
          have HL := Lib.hid hl
          clear hl
          have HB2 := Lib.hid ((Below.refl wr.heap.size wr).alloc (Nat.le_refl _) (.cells #[.int .i64 fmt, .int .i64 blk] 3))
          cases hz : zerosP [fmt, blk]
          · have HZ := Lib.hid hz
            clear hz
            go_wp2_with fail
            refine (within_any org 1 3 _).mono ?_
            rintro e w2 ⟨rfl, rfl⟩
            rw [HO.out]
            go_wp2_with fail
            refine (within_any len 1 _ _).mono ?_
            rintro e w2 ⟨rfl, rfl⟩
            rw [HL.out]
            go_wp2_with fail
            refine (zeros_any [fmt, blk] wr.heap.size 2 (wr.alloc (.cells #[.int .i64 fmt, .int .i64 blk] 3)) (by simp) (heap_alloc_new wr _)).mono ?_
            rintro e w2 ⟨rfl, rfl⟩
            rw [HZ.out]
            go_wp2_with fail
            go_ret
            exact ⟨by unfold kvalP; rw [HK.out, HO.out, HM.out, HL.out, HZ.out]; rfl, (HB.out.trans (HB2.out.mono HB.out.size))⟩
          · have HZ := Lib.hid hz
            clear hz
            go_wp2_with fail
            refine (within_any org 1 3 _).mono ?_
            rintro e w2 ⟨rfl, rfl⟩
            rw [HO.out]
            go_wp2_with fail
            refine (within_any len 1 _ _).mono ?_
            rintro e w2 ⟨rfl, rfl⟩
            rw [HL.out]
            go_wp2_with fail
            refine (zeros_any [fmt, blk] wr.heap.size 2 (wr.alloc (.cells #[.int .i64 fmt, .int .i64 blk] 3)) (by simp) (heap_alloc_new wr _)).mono ?_
            rintro e w2 ⟨rfl, rfl⟩
            rw [HZ.out]
            have HBx := Lib.hid (HB.out.trans (HB2.out.mono HB.out.size))
            have HDx := Lib.hid (heap_below HB2.out (lt_of_block HD.out) HD.out)
            clear HB HB2 HD c1 c2 c3 c4 hc7
            generalize wr.alloc (.cells #[.int .i64 fmt, .int .i64 blk] 3) = wq at HBx HDx ⊢
            have c1 := cell_at (i := 1) (v := .int .i64 org) HDx.out rfl
            have c3 := cell_at (i := 3) (v := .int .i64 len) HDx.out rfl
            have c5 := cell_at (i := 5) (v := .int .i64 z.kat) HDx.out rfl
            have c6 := cell_at (i := 6) (v := .int .i64 z.klen) HDx.out rfl
            have c7 := cell_at (i := 7) (v := .int .i64 z.ivl) HDx.out rfl
            have c8 := cell_at (i := 8) (v := .int .i64 z.area) HDx.out rfl
            have c9 := cell_at (i := 9) (v := .int .i64 z.fivl) HDx.out rfl
            have c10 := cell_at (i := 10) (v := .int .i64 z.fare) HDx.out rfl
            by_cases h3 : org = 3
            · subst h3
              have H3 := Lib.hid (rfl : (3 : Int) = 3)
              have hd2 : z.ivl.tdiv 2 = z.ivl / 2 := Int.tdiv_eq_ediv_of_nonneg (by omega)
              have hd16 : z.ivl.tdiv 16 = z.ivl / 16 := Int.tdiv_eq_ediv_of_nonneg (by omega)
              have w1a : IntKind.i64.wrap (z.ivl / 2) = z.ivl / 2 := IntWalk.i64_in _ (by omega)
              have w2a : IntKind.i64.wrap (z.ivl / 2 - 8) = z.ivl / 2 - 8 := IntWalk.i64_in _ (by omega)
              have w3a : IntKind.i64.wrap (z.ivl / 16) = z.ivl / 16 := IntWalk.i64_in _ (by omega)
              cases hq0 : decide (len ≤ z.ivl / 2 - 8)
              · have HA := Lib.hid hq0
                have hq0l : ¬ (len ≤ z.ivl / 2 - 8) := of_decide_eq_false hq0
                clear hq0
                go_wp2_with fail
                go_ret
                exact ⟨by unfold kvalP; rw [HK.out, HO.out, HM.out, HL.out, HZ.out, if_pos rfl, HA.out]; rfl, HBx.out⟩
              · have HA := Lib.hid hq0
                have hq0l : len ≤ z.ivl / 2 - 8 := of_decide_eq_true hq0
                clear hq0
                cases hq1 : inP z.kat 0 len
                · have HC := Lib.hid hq1
                  clear hq1
                  go_wp2_with fail
                  refine (within_any z.kat 0 _ _).mono ?_
                  rintro e w2 ⟨rfl, rfl⟩
                  rw [HC.out]
                  go_wp2_with fail
                  go_ret
                  exact ⟨by unfold kvalP; rw [HK.out, HO.out, HM.out, HL.out, HZ.out, if_pos rfl, HA.out, HC.out]; rfl, HBx.out⟩
                · have HC := Lib.hid hq1
                  clear hq1
                  cases hq2 : inP z.klen 1 (z.ivl / 16)
                  · have HE := Lib.hid hq2
                    clear hq2
                    go_wp2_with fail
                    refine (within_any z.kat 0 _ _).mono ?_
                    rintro e w2 ⟨rfl, rfl⟩
                    rw [HC.out]
                    go_wp2_with fail
                    refine (within_any z.klen 1 _ _).mono ?_
                    rintro e w2 ⟨rfl, rfl⟩
                    rw [HE.out]
                    go_wp2_with fail
                    go_ret
                    exact ⟨by unfold kvalP; rw [HK.out, HO.out, HM.out, HL.out, HZ.out, if_pos rfl, HA.out, HC.out, HE.out]; rfl, HBx.out⟩
                  · have HE := Lib.hid hq2
                    clear hq2
                    have w4a : IntKind.i64.wrap (z.kat + z.klen) = z.kat + z.klen := IntWalk.i64_in _ (by have h1 := HC.out; have h2 := HE.out; simp [inP] at h1 h2; omega)
                    cases hq3 : decide (z.kat + z.klen ≤ len)
                    · have HF := Lib.hid hq3
                      have hq3l : ¬ (z.kat + z.klen ≤ len) := of_decide_eq_false hq3
                      clear hq3
                      go_wp2_with fail
                      refine (within_any z.kat 0 _ _).mono ?_
                      rintro e w2 ⟨rfl, rfl⟩
                      rw [HC.out]
                      go_wp2_with fail
                      refine (within_any z.klen 1 _ _).mono ?_
                      rintro e w2 ⟨rfl, rfl⟩
                      rw [HE.out]
                      go_wp2_with fail
                      go_ret
                      exact ⟨by unfold kvalP; rw [HK.out, HO.out, HM.out, HL.out, HZ.out, if_pos rfl, HA.out, HC.out, HE.out, HF.out]; rfl, HBx.out⟩
                    · have HF := Lib.hid hq3
                      have hq3l : z.kat + z.klen ≤ len := of_decide_eq_true hq3
                      clear hq3
                      cases hq4 : inP z.area 2 8
                      · have HG := Lib.hid hq4
                        clear hq4
                        go_wp2_with fail
                        refine (within_any z.kat 0 _ _).mono ?_
                        rintro e w2 ⟨rfl, rfl⟩
                        rw [HC.out]
                        go_wp2_with fail
                        refine (within_any z.klen 1 _ _).mono ?_
                        rintro e w2 ⟨rfl, rfl⟩
                        rw [HE.out]
                        go_wp2_with fail
                        refine (within_any z.area 2 8 _).mono ?_
                        rintro e w2 ⟨rfl, rfl⟩
                        rw [HG.out]
                        go_wp2_with fail
                        go_ret
                        exact ⟨by unfold kvalP; rw [HK.out, HO.out, HM.out, HL.out, HZ.out, if_pos rfl, HA.out, HC.out, HE.out, HF.out, HG.out]; rfl, HBx.out⟩
                      · have HG := Lib.hid hq4
                        clear hq4
                        cases hq5 : inP z.fivl 0 90
                        · have HH := Lib.hid hq5
                          clear hq5
                          go_wp2_with fail
                          refine (within_any z.kat 0 _ _).mono ?_
                          rintro e w2 ⟨rfl, rfl⟩
                          rw [HC.out]
                          go_wp2_with fail
                          refine (within_any z.klen 1 _ _).mono ?_
                          rintro e w2 ⟨rfl, rfl⟩
                          rw [HE.out]
                          go_wp2_with fail
                          refine (within_any z.area 2 8 _).mono ?_
                          rintro e w2 ⟨rfl, rfl⟩
                          rw [HG.out]
                          go_wp2_with fail
                          refine (within_any z.fivl 0 90 _).mono ?_
                          rintro e w2 ⟨rfl, rfl⟩
                          rw [HH.out]
                          go_wp2_with fail
                          go_ret
                          exact ⟨by unfold kvalP; rw [HK.out, HO.out, HM.out, HL.out, HZ.out, if_pos rfl, HA.out, HC.out, HE.out, HF.out, HG.out, HH.out]; rfl, HBx.out⟩
                        · have HH := Lib.hid hq5
                          clear hq5
                          have w5a : IntKind.i64.wrap (z.area - 1) = z.area - 1 := IntWalk.i64_in _ (by have h1 := HG.out; simp [inP] at h1; omega)
                          cases hq6 : inP z.fare 0 (z.area - 1)
                          · have HI := Lib.hid hq6
                            clear hq6
                            go_wp2_with fail
                            refine (within_any z.kat 0 _ _).mono ?_
                            rintro e w2 ⟨rfl, rfl⟩
                            rw [HC.out]
                            go_wp2_with fail
                            refine (within_any z.klen 1 _ _).mono ?_
                            rintro e w2 ⟨rfl, rfl⟩
                            rw [HE.out]
                            go_wp2_with fail
                            refine (within_any z.area 2 8 _).mono ?_
                            rintro e w2 ⟨rfl, rfl⟩
                            rw [HG.out]
                            go_wp2_with fail
                            refine (within_any z.fivl 0 90 _).mono ?_
                            rintro e w2 ⟨rfl, rfl⟩
                            rw [HH.out]
                            go_wp2_with fail
                            refine (within_any z.fare 0 _ _).mono ?_
                            rintro e w2 ⟨rfl, rfl⟩
                            rw [HI.out]
                            go_wp2_with fail
                            go_ret
                            exact ⟨by unfold kvalP; rw [HK.out, HO.out, HM.out, HL.out, HZ.out, if_pos rfl, HA.out, HC.out, HE.out, HF.out, HG.out, HH.out, HI.out]; rfl, HBx.out⟩
                          · have HI := Lib.hid hq6
                            clear hq6
                            go_wp2_with fail
                            refine (within_any z.kat 0 _ _).mono ?_
                            rintro e w2 ⟨rfl, rfl⟩
                            rw [HC.out]
                            go_wp2_with fail
                            refine (within_any z.klen 1 _ _).mono ?_
                            rintro e w2 ⟨rfl, rfl⟩
                            rw [HE.out]
                            go_wp2_with fail
                            refine (within_any z.area 2 8 _).mono ?_
                            rintro e w2 ⟨rfl, rfl⟩
                            rw [HG.out]
                            go_wp2_with fail
                            refine (within_any z.fivl 0 90 _).mono ?_
                            rintro e w2 ⟨rfl, rfl⟩
                            rw [HH.out]
                            go_wp2_with fail
                            refine (within_any z.fare 0 _ _).mono ?_
                            rintro e w2 ⟨rfl, rfl⟩
                            rw [HI.out]
                            go_wp2_with fail
                            go_ret
                            exact ⟨by unfold kvalP; rw [HK.out, HO.out, HM.out, HL.out, HZ.out, if_pos rfl, HA.out, HC.out, HE.out, HF.out, HG.out, HH.out, HI.out]; rfl, HBx.out⟩
            · have H3 := Lib.hid h3
              have HB3 := Lib.hid ((Below.refl wq.heap.size wq).alloc (Nat.le_refl _) (.cells #[.int .i64 z.kat, .int .i64 z.klen, .int .i64 z.area, .int .i64 z.fivl, .int .i64 z.fare] 3))
              go_wp2_with fail
              refine (zeros_any [z.kat, z.klen, z.area, z.fivl, z.fare] wq.heap.size 5 (wq.alloc (.cells #[.int .i64 z.kat, .int .i64 z.klen, .int .i64 z.area, .int .i64 z.fivl, .int .i64 z.fare] 3)) (by simp) (heap_alloc_new wq _)).mono ?_
              rintro e w2 ⟨rfl, rfl⟩
              go_wp2_with fail
              go_ret
              exact ⟨by unfold kvalP; rw [HK.out, HO.out, HM.out, HL.out, HZ.out, if_neg H3.out]; rfl, HBx.out.trans (HB3.out.mono HBx.out.size)⟩
end
section
open Go.RowKit Go.Sort
variable {z : Rest}
/-- As the reference has it. -/
def rkvalP (z : Rest) (org fmt len blk : Int) : Bool :=
 (ivlP z.ivl && inP org 1 3) && (inP len 1 (capL z.ivl) && decide (fmt = 0) && decide (blk = 0)) &&
   (if org = 3 then decide (len ≤ z.ivl / 2 - 8) && inP z.kat 0 200 && inP z.klen 1 (z.ivl / 16) && decide (z.kat + z.klen ≤ len) && inP z.area 2 8 && inP z.fivl 0 90 && inP z.fare 0 (z.area - 1)
    else decide (z.kat = 0) && decide (z.klen = 0) && decide (z.area = 0) && decide (z.fivl = 0) && decide (z.fare = 0))
theorem rkval_eq (z : Rest) (org fmt len blk : Int) : rkvalP z org fmt len blk = kvalP z org fmt len blk := by
 rw [Bool.eq_iff_iff]
 unfold rkvalP kvalP inP zerosP
 by_cases h : org = 3
 · simp only [if_pos h, Bool.and_eq_true, decide_eq_true_eq, List.all_cons, List.all_nil, Bool.and_true]
   have hc : capL z.ivl ≤ 200 := by unfold capL; split <;> omega
   constructor
   · rintro ⟨⟨⟨h1, h2⟩, ⟨h3, h4⟩, h5⟩, h6⟩
     exact ⟨⟨⟨⟨h1, h2⟩, h3⟩, h4, h5⟩, ⟨⟨⟨⟨⟨⟨h6.1.1.1.1.1.1, h6.1.1.1.1.1.2.1, by omega⟩, h6.1.1.1.1.2⟩, h6.1.1.1.2⟩, h6.1.1.2⟩, h6.1.2⟩, h6.2⟩⟩
   · rintro ⟨⟨⟨⟨h1, h2⟩, h3⟩, h4, h5⟩, h6⟩
     exact ⟨⟨⟨h1, h2⟩, ⟨h3, h4⟩, h5⟩, ⟨⟨⟨⟨⟨⟨h6.1.1.1.1.1.1, h6.1.1.1.1.1.2.1, by omega⟩, h6.1.1.1.1.2⟩, h6.1.1.1.2⟩, h6.1.1.2⟩, h6.1.2⟩, h6.2⟩⟩
 · simp only [if_neg h, Bool.and_eq_true, decide_eq_true_eq, List.all_cons, List.all_nil, Bool.and_true]
   constructor
   · rintro ⟨⟨⟨h1, h2⟩, ⟨h3, h4⟩, h5⟩, ⟨⟨⟨a, b⟩, c⟩, d⟩, e⟩
     exact ⟨⟨⟨⟨h1, h2⟩, h3⟩, h4, h5⟩, a, b, c, d, e⟩
   · rintro ⟨⟨⟨⟨h1, h2⟩, h3⟩, h4, h5⟩, a, b, c, d, e⟩
     exact ⟨⟨⟨h1, h2⟩, ⟨h3, h4⟩, h5⟩, ⟨⟨⟨a, b⟩, c⟩, d⟩, e⟩
theorem rkvalid_any (org fmt len blk : Int) (w : World) : Calls Tryz.prog 77 #[.agg (dsv z org fmt len blk)] w fun e w' => e = .returned (.bool (rkvalP z org fmt len blk)) ∧ Below w.heap.size w w' := by
 have HB := Lib.hid (box_below w (dsv z org fmt len blk) 45)
 have HD := Lib.hid (heap_alloc_new w (.cells (dsv z org fmt len blk) 45))
 have c1 := cell_at (i := 1) (v := .int .i64 org) HD.out rfl
 have c2 := cell_at (i := 2) (v := .int .i64 fmt) HD.out rfl
 have c3 := cell_at (i := 3) (v := .int .i64 len) HD.out rfl
 have c4 := cell_at (i := 4) (v := .int .i64 blk) HD.out rfl
 have c5 := cell_at (i := 5) (v := .int .i64 z.kat) HD.out rfl
 have c6 := cell_at (i := 6) (v := .int .i64 z.klen) HD.out rfl
 have c7 := cell_at (i := 7) (v := .int .i64 z.ivl) HD.out rfl
 have c8 := cell_at (i := 8) (v := .int .i64 z.area) HD.out rfl
 have c9 := cell_at (i := 9) (v := .int .i64 z.fivl) HD.out rfl
 have c10 := cell_at (i := 10) (v := .int .i64 z.fare) HD.out rfl
 cases hk : ivlP z.ivl && inP org 1 3
 · have HK := Lib.hid hk
   have h1 : ¬ (z.ivl = 128 ∨ z.ivl = 256 ∨ z.ivl = 512) ∨ ¬ (org = 1 ∨ org = 2 ∨ org = 3) := by
    simp [ivlP, inP] at hk
    by_cases h : z.ivl = 128 ∨ z.ivl = 256 ∨ z.ivl = 512
    · exact Or.inr (by have := hk (by omega); omega)
    · exact Or.inl h
   clear hk
   have hret : (rkvalP z org fmt len blk) = false := by unfold rkvalP; rw [HK.out]; rfl
   have HR := Lib.hid hret
   clear hret
   by_cases hz : z.ivl = 128 ∨ z.ivl = 256 ∨ z.ivl = 512
   · have ho : ¬ (org = 1 ∨ org = 2 ∨ org = 3) := h1.resolve_left (fun h => h hz)
     clear h1 hz
     have o1 : (org != 1) = true := by simp; omega
     have o2 : (org != 2) = true := by simp; omega
     have o3 : (org != 3) = true := by simp; omega
     clear ho
     go_enter Tryz.func77, Tryz.ntmps77
     go_wp2_with fail
     go_ret
     exact ⟨by rw [HR.out]; rfl, HB.out⟩
   · have o1 : (z.ivl != 128) = true := by simp; omega
     have o2 : (z.ivl != 256) = true := by simp; omega
     have o3 : (z.ivl != 512) = true := by simp; omega
     clear h1 hz
     go_enter Tryz.func77, Tryz.ntmps77
     go_wp2_with fail
     all_goals
      go_ret
      exact ⟨by rw [HR.out]; rfl, box_below w _ _⟩
 · obtain ⟨hi, ho⟩ := Bool.and_eq_true_iff.1 hk
   have HK := Lib.hid hk
   clear hk
   have hiv : 128 ≤ z.ivl ∧ z.ivl ≤ 512 := by simp [ivlP] at hi; omega
   obtain ⟨hv1, hv2⟩ := hiv
   have HI := Lib.hid (show z.ivl = 128 ∨ z.ivl = 256 ∨ z.ivl = 512 by simp [ivlP] at hi; omega)
   have ho2 : org = 1 ∨ org = 2 ∨ org = 3 := by simp [inP] at ho; omega
   have hw7 : IntKind.i64.wrap (z.ivl - 7) = z.ivl - 7 := IntWalk.i64_in _ (by omega)
   clear hi ho
   have HO := Lib.hid ho2
   clear ho2
   have HR := Lib.hid (show rkvalP z org fmt len blk = ((inP len 1 (capL z.ivl) && decide (fmt = 0) && decide (blk = 0)) &&
    (if org = 3 then decide (len ≤ z.ivl / 2 - 8) && inP z.kat 0 200 && inP z.klen 1 (z.ivl / 16) && decide (z.kat + z.klen ≤ len) && inP z.area 2 8 && inP z.fivl 0 90 && inP z.fare 0 (z.area - 1)
     else decide (z.kat = 0) && decide (z.klen = 0) && decide (z.area = 0) && decide (z.fivl = 0) && decide (z.fare = 0))) by unfold rkvalP; rw [HK.out]; rfl)
   clear HK
   go_enter Tryz.func77, Tryz.ntmps77
   go_upto_region 1 with fail
   generalize w.alloc (.cells (dsv z org fmt len blk) 45) = w0 at HB HD c1 c2 c3 c4 c5 c6 c7 c8 c9 c10 ⊢
   go_cut [30] (fun s30 wx => s30 = .bool false ∧ wx = w0)
   case first =>
    rcases HI.out with hz | hz | hz
    all_goals
     rcases HO.out with ho | ho | ho
    all_goals
     subst ho
     rw [hz] at c7
     clear hz
     go_wp2_with fail
     go_meet
     exact ⟨rfl, rfl⟩
   case rest =>
    obtain ⟨rfl, rfl⟩ := hcut
    have hm0 : (if z.ivl - 7 < 200 then z.ivl - 7 else 200) = capL z.ivl := rfl
    have hm1 : capL z.ivl ≤ 200 := by unfold capL; split <;> omega
    obtain ⟨mm, hmm⟩ : ∃ mm, capL z.ivl = mm := ⟨_, rfl⟩
    rw [hmm] at hm0 hm1
    have HM := Lib.hid hmm
    clear hmm
    cases hqHL : inP len 1 mm
    · have HL := Lib.hid hqHL
      clear hqHL
      go_wp2_with fail
      refine (rbetween_any len 1 _ _).mono ?_
      rintro e w2 ⟨rfl, rfl⟩
      rw [HL.out]
      go_wp2_with fail
      go_ret
      exact ⟨by rw [HR.out, HM.out, HL.out]; rfl, HB.out⟩
    · have HL := Lib.hid hqHL
      clear hqHL
      cases hqHF : decide (fmt = 0)
      · have HF := Lib.hid hqHF
        have hqHFb : (fmt != 0) = true := by simpa using hqHF
        have hqHFe : (fmt == 0) = false := by simpa using hqHF
        clear hqHF
        go_wp2_with fail
        refine (rbetween_any len 1 _ _).mono ?_
        rintro e w2 ⟨rfl, rfl⟩
        rw [HL.out]
        go_wp2_with fail
        go_ret
        exact ⟨by rw [HR.out, HM.out, HL.out, HF.out]; rfl, HB.out⟩
      · have HF := Lib.hid hqHF
        have hqHFb : (fmt != 0) = false := by simpa using hqHF
        have hqHFe : (fmt == 0) = true := by simpa using hqHF
        clear hqHF
        cases hqHK2 : decide (blk = 0)
        · have HK2 := Lib.hid hqHK2
          have hqHK2b : (blk != 0) = true := by simpa using hqHK2
          have hqHK2e : (blk == 0) = false := by simpa using hqHK2
          clear hqHK2
          go_wp2_with fail
          refine (rbetween_any len 1 _ _).mono ?_
          rintro e w2 ⟨rfl, rfl⟩
          rw [HL.out]
          go_wp2_with fail
          go_ret
          exact ⟨by rw [HR.out, HM.out, HL.out, HF.out, HK2.out]; rfl, HB.out⟩
        · have HK2 := Lib.hid hqHK2
          have hqHK2b : (blk != 0) = false := by simpa using hqHK2
          have hqHK2e : (blk == 0) = true := by simpa using hqHK2
          clear hqHK2
          by_cases h3 : org = 3
          · have hne : (org != 3) = false := by simp [h3]
            rw [if_pos h3] at HR
            clear h3
            have hd2 : z.ivl.tdiv 2 = z.ivl / 2 := Int.tdiv_eq_ediv_of_nonneg (by omega)
            have hd16 : z.ivl.tdiv 16 = z.ivl / 16 := Int.tdiv_eq_ediv_of_nonneg (by omega)
            have w1a : IntKind.i64.wrap (z.ivl / 2) = z.ivl / 2 := IntWalk.i64_in _ (by omega)
            have w2a : IntKind.i64.wrap (z.ivl / 2 - 8) = z.ivl / 2 - 8 := IntWalk.i64_in _ (by omega)
            have w3a : IntKind.i64.wrap (z.ivl / 16) = z.ivl / 16 := IntWalk.i64_in _ (by omega)
            cases hqHA : decide (len ≤ z.ivl / 2 - 8)
            · have HA := Lib.hid hqHA
              have hqHAl : ¬ (len ≤ z.ivl / 2 - 8) := of_decide_eq_false hqHA
              clear hqHA
              go_wp2_with fail
              refine (rbetween_any len 1 _ _).mono ?_
              rintro e w2 ⟨rfl, rfl⟩
              rw [HL.out]
              go_wp2_with fail
              go_ret
              exact ⟨by rw [HR.out, HM.out, HL.out, HF.out, HK2.out, HA.out]; rfl, HB.out⟩
            · have HA := Lib.hid hqHA
              have hqHAl : len ≤ z.ivl / 2 - 8 := of_decide_eq_true hqHA
              clear hqHA
              cases hqHC : inP z.kat 0 200
              · have HC := Lib.hid hqHC
                clear hqHC
                go_wp2_with fail
                refine (rbetween_any len 1 _ _).mono ?_
                rintro e w2 ⟨rfl, rfl⟩
                rw [HL.out]
                go_wp2_with fail
                refine (rbetween_any z.kat 0 200 _).mono ?_
                rintro e w2 ⟨rfl, rfl⟩
                rw [HC.out]
                go_wp2_with fail
                go_ret
                exact ⟨by rw [HR.out, HM.out, HL.out, HF.out, HK2.out, HA.out, HC.out]; rfl, HB.out⟩
              · have HC := Lib.hid hqHC
                clear hqHC
                cases hqHE : inP z.klen 1 (z.ivl / 16)
                · have HE := Lib.hid hqHE
                  clear hqHE
                  go_wp2_with fail
                  refine (rbetween_any len 1 _ _).mono ?_
                  rintro e w2 ⟨rfl, rfl⟩
                  rw [HL.out]
                  go_wp2_with fail
                  refine (rbetween_any z.kat 0 200 _).mono ?_
                  rintro e w2 ⟨rfl, rfl⟩
                  rw [HC.out]
                  go_wp2_with fail
                  refine (rbetween_any z.klen 1 _ _).mono ?_
                  rintro e w2 ⟨rfl, rfl⟩
                  rw [HE.out]
                  go_wp2_with fail
                  go_ret
                  exact ⟨by rw [HR.out, HM.out, HL.out, HF.out, HK2.out, HA.out, HC.out, HE.out]; rfl, HB.out⟩
                · have HE := Lib.hid hqHE
                  clear hqHE
                  have w4a : IntKind.i64.wrap (z.kat + z.klen) = z.kat + z.klen := IntWalk.i64_in _ (by have h1 := HC.out; have h2 := HE.out; simp [inP] at h1 h2; omega)
                  cases hqHP : decide (z.kat + z.klen ≤ len)
                  · have HP := Lib.hid hqHP
                    have hqHPl : ¬ (z.kat + z.klen ≤ len) := of_decide_eq_false hqHP
                    clear hqHP
                    go_wp2_with fail
                    refine (rbetween_any len 1 _ _).mono ?_
                    rintro e w2 ⟨rfl, rfl⟩
                    rw [HL.out]
                    go_wp2_with fail
                    refine (rbetween_any z.kat 0 200 _).mono ?_
                    rintro e w2 ⟨rfl, rfl⟩
                    rw [HC.out]
                    go_wp2_with fail
                    refine (rbetween_any z.klen 1 _ _).mono ?_
                    rintro e w2 ⟨rfl, rfl⟩
                    rw [HE.out]
                    go_wp2_with fail
                    go_ret
                    exact ⟨by rw [HR.out, HM.out, HL.out, HF.out, HK2.out, HA.out, HC.out, HE.out, HP.out]; rfl, HB.out⟩
                  · have HP := Lib.hid hqHP
                    have hqHPl : z.kat + z.klen ≤ len := of_decide_eq_true hqHP
                    clear hqHP
                    cases hqHG : inP z.area 2 8
                    · have HG := Lib.hid hqHG
                      clear hqHG
                      go_wp2_with fail
                      refine (rbetween_any len 1 _ _).mono ?_
                      rintro e w2 ⟨rfl, rfl⟩
                      rw [HL.out]
                      go_wp2_with fail
                      refine (rbetween_any z.kat 0 200 _).mono ?_
                      rintro e w2 ⟨rfl, rfl⟩
                      rw [HC.out]
                      go_wp2_with fail
                      refine (rbetween_any z.klen 1 _ _).mono ?_
                      rintro e w2 ⟨rfl, rfl⟩
                      rw [HE.out]
                      go_wp2_with fail
                      refine (rbetween_any z.area 2 8 _).mono ?_
                      rintro e w2 ⟨rfl, rfl⟩
                      rw [HG.out]
                      go_wp2_with fail
                      go_ret
                      exact ⟨by rw [HR.out, HM.out, HL.out, HF.out, HK2.out, HA.out, HC.out, HE.out, HP.out, HG.out]; rfl, HB.out⟩
                    · have HG := Lib.hid hqHG
                      clear hqHG
                      cases hqHH : inP z.fivl 0 90
                      · have HH := Lib.hid hqHH
                        clear hqHH
                        go_wp2_with fail
                        refine (rbetween_any len 1 _ _).mono ?_
                        rintro e w2 ⟨rfl, rfl⟩
                        rw [HL.out]
                        go_wp2_with fail
                        refine (rbetween_any z.kat 0 200 _).mono ?_
                        rintro e w2 ⟨rfl, rfl⟩
                        rw [HC.out]
                        go_wp2_with fail
                        refine (rbetween_any z.klen 1 _ _).mono ?_
                        rintro e w2 ⟨rfl, rfl⟩
                        rw [HE.out]
                        go_wp2_with fail
                        refine (rbetween_any z.area 2 8 _).mono ?_
                        rintro e w2 ⟨rfl, rfl⟩
                        rw [HG.out]
                        go_wp2_with fail
                        refine (rbetween_any z.fivl 0 90 _).mono ?_
                        rintro e w2 ⟨rfl, rfl⟩
                        rw [HH.out]
                        go_wp2_with fail
                        go_ret
                        exact ⟨by rw [HR.out, HM.out, HL.out, HF.out, HK2.out, HA.out, HC.out, HE.out, HP.out, HG.out, HH.out]; rfl, HB.out⟩
                      · have HH := Lib.hid hqHH
                        clear hqHH
                        have w5a : IntKind.i64.wrap (z.area - 1) = z.area - 1 := IntWalk.i64_in _ (by have h1 := HG.out; simp [inP] at h1; omega)
                        cases hqHJ : inP z.fare 0 (z.area - 1)
                        · have HJ := Lib.hid hqHJ
                          clear hqHJ
                          go_wp2_with fail
                          refine (rbetween_any len 1 _ _).mono ?_
                          rintro e w2 ⟨rfl, rfl⟩
                          rw [HL.out]
                          go_wp2_with fail
                          refine (rbetween_any z.kat 0 200 _).mono ?_
                          rintro e w2 ⟨rfl, rfl⟩
                          rw [HC.out]
                          go_wp2_with fail
                          refine (rbetween_any z.klen 1 _ _).mono ?_
                          rintro e w2 ⟨rfl, rfl⟩
                          rw [HE.out]
                          go_wp2_with fail
                          refine (rbetween_any z.area 2 8 _).mono ?_
                          rintro e w2 ⟨rfl, rfl⟩
                          rw [HG.out]
                          go_wp2_with fail
                          refine (rbetween_any z.fivl 0 90 _).mono ?_
                          rintro e w2 ⟨rfl, rfl⟩
                          rw [HH.out]
                          go_wp2_with fail
                          refine (rbetween_any z.fare 0 _ _).mono ?_
                          rintro e w2 ⟨rfl, rfl⟩
                          rw [HJ.out]
                          go_wp2_with fail
                          go_ret
                          exact ⟨by rw [HR.out, HM.out, HL.out, HF.out, HK2.out, HA.out, HC.out, HE.out, HP.out, HG.out, HH.out, HJ.out]; rfl, HB.out⟩
                        · have HJ := Lib.hid hqHJ
                          clear hqHJ
                          go_wp2_with fail
                          refine (rbetween_any len 1 _ _).mono ?_
                          rintro e w2 ⟨rfl, rfl⟩
                          rw [HL.out]
                          go_wp2_with fail
                          refine (rbetween_any z.kat 0 200 _).mono ?_
                          rintro e w2 ⟨rfl, rfl⟩
                          rw [HC.out]
                          go_wp2_with fail
                          refine (rbetween_any z.klen 1 _ _).mono ?_
                          rintro e w2 ⟨rfl, rfl⟩
                          rw [HE.out]
                          go_wp2_with fail
                          refine (rbetween_any z.area 2 8 _).mono ?_
                          rintro e w2 ⟨rfl, rfl⟩
                          rw [HG.out]
                          go_wp2_with fail
                          refine (rbetween_any z.fivl 0 90 _).mono ?_
                          rintro e w2 ⟨rfl, rfl⟩
                          rw [HH.out]
                          go_wp2_with fail
                          refine (rbetween_any z.fare 0 _ _).mono ?_
                          rintro e w2 ⟨rfl, rfl⟩
                          rw [HJ.out]
                          go_wp2_with fail
                          go_ret
                          exact ⟨by rw [HR.out, HM.out, HL.out, HF.out, HK2.out, HA.out, HC.out, HE.out, HP.out, HG.out, HH.out, HJ.out]; rfl, HB.out⟩
          · have hne : (org != 3) = true := by simp [h3]
            rw [if_neg h3] at HR
            clear h3
            cases hqZ0 : decide (z.kat = 0)
            · have Z0 := Lib.hid hqZ0
              have hqZ0b : (z.kat != 0) = true := by simpa using hqZ0
              have hqZ0e : (z.kat == 0) = false := by simpa using hqZ0
              clear hqZ0
              go_wp2_with fail
              refine (rbetween_any len 1 _ _).mono ?_
              rintro e w2 ⟨rfl, rfl⟩
              rw [HL.out]
              go_wp2_with fail
              go_ret
              exact ⟨by rw [HR.out, HM.out, HL.out, HF.out, HK2.out, Z0.out]; rfl, HB.out⟩
            · have Z0 := Lib.hid hqZ0
              have hqZ0b : (z.kat != 0) = false := by simpa using hqZ0
              have hqZ0e : (z.kat == 0) = true := by simpa using hqZ0
              clear hqZ0
              cases hqZ1 : decide (z.klen = 0)
              · have Z1 := Lib.hid hqZ1
                have hqZ1b : (z.klen != 0) = true := by simpa using hqZ1
                have hqZ1e : (z.klen == 0) = false := by simpa using hqZ1
                clear hqZ1
                go_wp2_with fail
                refine (rbetween_any len 1 _ _).mono ?_
                rintro e w2 ⟨rfl, rfl⟩
                rw [HL.out]
                go_wp2_with fail
                go_ret
                exact ⟨by rw [HR.out, HM.out, HL.out, HF.out, HK2.out, Z0.out, Z1.out]; rfl, HB.out⟩
              · have Z1 := Lib.hid hqZ1
                have hqZ1b : (z.klen != 0) = false := by simpa using hqZ1
                have hqZ1e : (z.klen == 0) = true := by simpa using hqZ1
                clear hqZ1
                cases hqZ2 : decide (z.area = 0)
                · have Z2 := Lib.hid hqZ2
                  have hqZ2b : (z.area != 0) = true := by simpa using hqZ2
                  have hqZ2e : (z.area == 0) = false := by simpa using hqZ2
                  clear hqZ2
                  go_wp2_with fail
                  refine (rbetween_any len 1 _ _).mono ?_
                  rintro e w2 ⟨rfl, rfl⟩
                  rw [HL.out]
                  go_wp2_with fail
                  go_ret
                  exact ⟨by rw [HR.out, HM.out, HL.out, HF.out, HK2.out, Z0.out, Z1.out, Z2.out]; rfl, HB.out⟩
                · have Z2 := Lib.hid hqZ2
                  have hqZ2b : (z.area != 0) = false := by simpa using hqZ2
                  have hqZ2e : (z.area == 0) = true := by simpa using hqZ2
                  clear hqZ2
                  cases hqZ3 : decide (z.fivl = 0)
                  · have Z3 := Lib.hid hqZ3
                    have hqZ3b : (z.fivl != 0) = true := by simpa using hqZ3
                    have hqZ3e : (z.fivl == 0) = false := by simpa using hqZ3
                    clear hqZ3
                    go_wp2_with fail
                    refine (rbetween_any len 1 _ _).mono ?_
                    rintro e w2 ⟨rfl, rfl⟩
                    rw [HL.out]
                    go_wp2_with fail
                    go_ret
                    exact ⟨by rw [HR.out, HM.out, HL.out, HF.out, HK2.out, Z0.out, Z1.out, Z2.out, Z3.out]; rfl, HB.out⟩
                  · have Z3 := Lib.hid hqZ3
                    have hqZ3b : (z.fivl != 0) = false := by simpa using hqZ3
                    have hqZ3e : (z.fivl == 0) = true := by simpa using hqZ3
                    clear hqZ3
                    cases hqZ4 : decide (z.fare = 0)
                    · have Z4 := Lib.hid hqZ4
                      have hqZ4b : (z.fare != 0) = true := by simpa using hqZ4
                      have hqZ4e : (z.fare == 0) = false := by simpa using hqZ4
                      clear hqZ4
                      go_wp2_with fail
                      refine (rbetween_any len 1 _ _).mono ?_
                      rintro e w2 ⟨rfl, rfl⟩
                      rw [HL.out]
                      go_wp2_with fail
                      go_ret
                      exact ⟨by rw [HR.out, HM.out, HL.out, HF.out, HK2.out, Z0.out, Z1.out, Z2.out, Z3.out, Z4.out]; rfl, HB.out⟩
                    · have Z4 := Lib.hid hqZ4
                      have hqZ4b : (z.fare != 0) = false := by simpa using hqZ4
                      have hqZ4e : (z.fare == 0) = true := by simpa using hqZ4
                      clear hqZ4
                      go_wp2_with fail
                      refine (rbetween_any len 1 _ _).mono ?_
                      rintro e w2 ⟨rfl, rfl⟩
                      rw [HL.out]
                      go_wp2_with fail
                      go_ret
                      exact ⟨by rw [HR.out, HM.out, HL.out, HF.out, HK2.out, Z0.out, Z1.out, Z2.out, Z3.out, Z4.out]; rfl, HB.out⟩
end
end Go.Proofs.YtcefkngblddpoaaGreatDoor

/-
  Walks: the validity of a description of a cluster, by the program. No condition.
  Walks: the validity of a description of a cluster, by the reference. No condition.
-/
import Derived.Test.YtckpepfkfjdnhaaGreatDoorQB
import Derived.Test.YtckpepfkfjdnhaaGreatDoorQD
import Derived.Deep.DeepCutAuto
namespace Go.Proofs.YtckpepfkfjdnhaaGreatDoor

section
open Go.RowKit Go.Sort
variable {z : Rest}

def ivlP (n : Int) : Bool := decide (n = 128) || decide (n = 256) || decide (n = 512)
def capL (n : Int) : Int := if n - 7 < 200 then n - 7 else 200
/-- Whether a description of a cluster is valid. -/
def kvalP (z : Rest) (org fmt len blk : Int) : Bool :=
 ivlP z.ivl && inP org 1 3 && inP len 1 (capL z.ivl) && zerosP [fmt, blk] &&
   (if org = 3 then decide (len ≤ z.ivl / 2 - 8) && inP z.kat 0 len && inP z.klen 1 (z.ivl / 16) && decide (z.kat + z.klen ≤ len) && inP z.area 2 8 && inP z.fivl 0 90 && inP z.fare 0 (z.area - 1)
    else zerosP [z.kat, z.klen, z.area, z.fivl, z.fare])
def knownN (n : Int) : Nat → Bool
 | 0 => false
 | 1 => decide (n = 128)
 | 2 => decide (n = 128) || decide (n = 256)
 | _ => ivlP n

set_option maxRecDepth 100000 in
set_option maxHeartbeats 2000000 in
theorem kvalid_any (org fmt len blk : Int) (w : World) : Calls Tryz.prog 72 #[.agg (dsv z org fmt len blk)] w fun e w' => e = .returned (.bool (kvalP z org fmt len blk)) ∧ Below w.heap.size w w' := by
 have HB := Lib.hid (two_below w (dsv z org fmt len blk) #[.int .i64 128, .int .i64 256, .int .i64 512] 23 178)
 have h7 : ((w.alloc (.cells (dsv z org fmt len blk) 23)).alloc (.cells #[.int .i64 128, .int .i64 256, .int .i64 512] 178)).heap[w.heap.size]? = some (.cells (dsv z org fmt len blk) 23 (0, 0)) := by
   rw [halloc _ _ (by simp)]; exact heap_alloc_new w _
 have HD := Lib.hid h7
 clear h7
 go_enter Tryz.func72, Tryz.ntmps72
 go_wp2_with fail
 generalize (w.alloc (.cells (dsv z org fmt len blk) 23)).alloc (.cells #[.int .i64 128, .int .i64 256, .int .i64 512] 178) = w1 at HB HD ⊢
 go_loopw [4, 9] (fun kn k wr => ∃ j : Nat, j ≤ 3 ∧ k = .int .i64 j ∧ kn = .bool (knownN z.ivl j) ∧ wr = w1) (fun _ k _ => 3 - (intOf k).toNat)
 case atStart => exact ⟨0, by omega, rfl, rfl, rfl⟩
 case round =>
   obtain ⟨j, hj, rfl, rfl, rfl⟩ := hrel
   have hc7 := cell_at (i := 7) (v := .int .i64 z.ivl) HD.out rfl
   by_cases hj3 : j < 3
   · have hn1 : IntKind.i64.wrap ((j : Int) + 1) = ((j + 1 : Nat) : Int) := IntWalk.i64_in _ (by omega)
     obtain ⟨cv, hix, hkn⟩ : ∃ cv : Int, (∀ W, (Instr.index 178 (.agg #[.int .i64 128, .int .i64 256, .int .i64 512]) (.int .i64 (j : Int))).run Tryz.prog W = .ok (.int .i64 cv) W) ∧ knownN z.ivl (j + 1) = (knownN z.ivl j || decide (z.ivl = cv)) := by
       match j, hj3 with
       | 0, _ => exact ⟨128, fun _ => by kernel_rfl, by simp [knownN]⟩
       | 1, _ => exact ⟨256, fun _ => by kernel_rfl, by simp [knownN]⟩
       | 2, _ => exact ⟨512, fun _ => by kernel_rfl, by simp [knownN, ivlP]⟩
     have HKN := Lib.hid hkn
     clear hkn
     have hlt : (j : Int) < 3 := by omega
     cases hk : knownN z.ivl j
     · rw [hk] at HKN
       have HE := Lib.hid (show (Value.bool (z.ivl == cv)) = Value.bool (knownN z.ivl (j + 1)) by rw [HKN.out, Bool.false_or]; congr 1)
       clear hk
       go_wp2_with fail
       go_roundw
       case rel => exact ⟨j + 1, by omega, by go_num, HE.out, trivial⟩
       case measure => simp [intOf]; omega
     · rw [hk] at HKN
       clear hk
       go_wp2_with fail
       go_roundw
       case rel => exact ⟨j + 1, by omega, by go_num, by rw [HKN.out]; rfl, trivial⟩
       case measure => simp [intOf]; omega
   · obtain rfl : j = 3 := by omega
     have c1 := cell_at (i := 1) (v := .int .i64 org) HD.out rfl
     have c2 := cell_at (i := 2) (v := .int .i64 fmt) HD.out rfl
     have c3 := cell_at (i := 3) (v := .int .i64 len) HD.out rfl
     have c4 := cell_at (i := 4) (v := .int .i64 blk) HD.out rfl
     have hkq : knownN z.ivl 3 = ivlP z.ivl := rfl
     rw [hkq]
     clear hkq
     cases hk : ivlP z.ivl
     · have HK := Lib.hid hk
       clear hk
       go_wp2_with fail
       go_ret
       exact ⟨by unfold kvalP; rw [HK.out]; rfl, HB.out⟩
     · have hiv : 128 ≤ z.ivl ∧ z.ivl ≤ 512 := by simp [ivlP] at hk; omega
       have HK := Lib.hid hk
       clear hk
       obtain ⟨hv1, hv2⟩ := hiv
       have hw7 : IntKind.i64.wrap (z.ivl - 7) = z.ivl - 7 := IntWalk.i64_in _ (by omega)
       cases ho : inP org 1 3
       · have HO := Lib.hid ho
         clear ho
         go_wp2_with fail
         refine (within_any org 1 3 _).mono ?_
         rintro e w2 ⟨rfl, rfl⟩
         rw [HO.out]
         go_wp2_with fail
         go_ret
         exact ⟨by unfold kvalP; rw [HK.out, HO.out]; rfl, HB.out⟩
       · have HO := Lib.hid ho
         clear ho
         have hm0 : (if z.ivl - 7 < 200 then z.ivl - 7 else 200) = capL z.ivl := rfl
         have hm1 : capL z.ivl ≤ 200 := by unfold capL; split <;> omega
         obtain ⟨mm, hmm⟩ : ∃ mm, capL z.ivl = mm := ⟨_, rfl⟩
         rw [hmm] at hm0 hm1
         have HM := Lib.hid hmm
         clear hmm
         cases hl : inP len 1 mm
         · have HL := Lib.hid hl
           clear hl
           go_wp2_with fail
           refine (within_any org 1 3 _).mono ?_
           rintro e w2 ⟨rfl, rfl⟩
           rw [HO.out]
           go_wp2_with fail
           refine (within_any len 1 _ _).mono ?_
           rintro e w2 ⟨rfl, rfl⟩
           rw [HL.out]
           go_wp2_with fail
           go_ret
           exact ⟨by unfold kvalP; rw [HK.out, HO.out, HM.out, HL.out]; rfl, HB.out⟩
         · have hlen : 1 ≤ len ∧ len ≤ 200 := by simp [inP] at hl; omega
           obtain ⟨hlen1, hlen2⟩ := hlen
           have HL := Lib.hid hl
           clear hl
           have HB2 := Lib.hid ((Below.refl wr.heap.size wr).alloc (Nat.le_refl _) (.cells #[.int .i64 fmt, .int .i64 blk] 3))
           cases hz : zerosP [fmt, blk]
           · have HZ := Lib.hid hz
             clear hz
             go_wp2_with fail
             refine (within_any org 1 3 _).mono ?_
             rintro e w2 ⟨rfl, rfl⟩
             rw [HO.out]
             go_wp2_with fail
             refine (within_any len 1 _ _).mono ?_
             rintro e w2 ⟨rfl, rfl⟩
             rw [HL.out]
             go_wp2_with fail
             refine (zeros_any [fmt, blk] wr.heap.size 2 (wr.alloc (.cells #[.int .i64 fmt, .int .i64 blk] 3)) (by simp) (heap_alloc_new wr _)).mono ?_
             rintro e w2 ⟨rfl, rfl⟩
             rw [HZ.out]
             go_wp2_with fail
             go_ret
             exact ⟨by unfold kvalP; rw [HK.out, HO.out, HM.out, HL.out, HZ.out]; rfl, (HB.out.trans (HB2.out.mono HB.out.size))⟩
           · have HZ := Lib.hid hz
             clear hz
             go_wp2_with fail
             refine (within_any org 1 3 _).mono ?_
             rintro e w2 ⟨rfl, rfl⟩
             rw [HO.out]
             go_wp2_with fail
             refine (within_any len 1 _ _).mono ?_
             rintro e w2 ⟨rfl, rfl⟩
             rw [HL.out]
             go_wp2_with fail
             refine (zeros_any [fmt, blk] wr.heap.size 2 (wr.alloc (.cells #[.int .i64 fmt, .int .i64 blk] 3)) (by simp) (heap_alloc_new wr _)).mono ?_
             rintro e w2 ⟨rfl, rfl⟩
             rw [HZ.out]
             have HBx := Lib.hid (HB.out.trans (HB2.out.mono HB.out.size))
             have HDx := Lib.hid (heap_below HB2.out (lt_of_block HD.out) HD.out)
             clear HB HB2 HD c1 c2 c3 c4 hc7
             generalize wr.alloc (.cells #[.int .i64 fmt, .int .i64 blk] 3) = wq at HBx HDx ⊢
             have c1 := cell_at (i := 1) (v := .int .i64 org) HDx.out rfl
             have c3 := cell_at (i := 3) (v := .int .i64 len) HDx.out rfl
             have c5 := cell_at (i := 5) (v := .int .i64 z.kat) HDx.out rfl
             have c6 := cell_at (i := 6) (v := .int .i64 z.klen) HDx.out rfl
             have c7 := cell_at (i := 7) (v := .int .i64 z.ivl) HDx.out rfl
             have c8 := cell_at (i := 8) (v := .int .i64 z.area) HDx.out rfl
             have c9 := cell_at (i := 9) (v := .int .i64 z.fivl) HDx.out rfl
             have c10 := cell_at (i := 10) (v := .int .i64 z.fare) HDx.out rfl
             by_cases h3 : org = 3
             · subst h3
               have H3 := Lib.hid (rfl : (3 : Int) = 3)
               have hd2 : z.ivl.tdiv 2 = z.ivl / 2 := Int.tdiv_eq_ediv_of_nonneg (by omega)
               have hd16 : z.ivl.tdiv 16 = z.ivl / 16 := Int.tdiv_eq_ediv_of_nonneg (by omega)
               have w1a : IntKind.i64.wrap (z.ivl / 2) = z.ivl / 2 := IntWalk.i64_in _ (by omega)
               have w2a : IntKind.i64.wrap (z.ivl / 2 - 8) = z.ivl / 2 - 8 := IntWalk.i64_in _ (by omega)
               have w3a : IntKind.i64.wrap (z.ivl / 16) = z.ivl / 16 := IntWalk.i64_in _ (by omega)
               cases hq0 : decide (len ≤ z.ivl / 2 - 8)
               · have HA := Lib.hid hq0
                 have hq0l : ¬ (len ≤ z.ivl / 2 - 8) := of_decide_eq_false hq0
                 clear hq0
                 go_wp2_with fail
                 go_ret
                 exact ⟨by unfold kvalP; rw [HK.out, HO.out, HM.out, HL.out, HZ.out, if_pos rfl, HA.out]; rfl, HBx.out⟩
               · have HA := Lib.hid hq0
                 have hq0l : len ≤ z.ivl / 2 - 8 := of_decide_eq_true hq0
                 clear hq0
                 cases hq1 : inP z.kat 0 len
                 · have HC := Lib.hid hq1
                   clear hq1
                   go_wp2_with fail
                   refine (within_any z.kat 0 _ _).mono ?_
                   rintro e w2 ⟨rfl, rfl⟩
                   rw [HC.out]
                   go_wp2_with fail
                   go_ret
                   exact ⟨by unfold kvalP; rw [HK.out, HO.out, HM.out, HL.out, HZ.out, if_pos rfl, HA.out, HC.out]; rfl, HBx.out⟩
                 · have HC := Lib.hid hq1
                   clear hq1
                   cases hq2 : inP z.klen 1 (z.ivl / 16)
                   · have HE := Lib.hid hq2
                     clear hq2
                     go_wp2_with fail
                     refine (within_any z.kat 0 _ _).mono ?_
                     rintro e w2 ⟨rfl, rfl⟩
                     rw [HC.out]
                     go_wp2_with fail
                     refine (within_any z.klen 1 _ _).mono ?_
                     rintro e w2 ⟨rfl, rfl⟩
                     rw [HE.out]
                     go_wp2_with fail
                     go_ret
                     exact ⟨by unfold kvalP; rw [HK.out, HO.out, HM.out, HL.out, HZ.out, if_pos rfl, HA.out, HC.out, HE.out]; rfl, HBx.out⟩
                   · have HE := Lib.hid hq2
                     clear hq2
                     have w4a : IntKind.i64.wrap (z.kat + z.klen) = z.kat + z.klen := IntWalk.i64_in _ (by have h1 := HC.out; have h2 := HE.out; simp [inP] at h1 h2; omega)
                     cases hq3 : decide (z.kat + z.klen ≤ len)
                     · have HF := Lib.hid hq3
                       have hq3l : ¬ (z.kat + z.klen ≤ len) := of_decide_eq_false hq3
                       clear hq3
                       go_wp2_with fail
                       refine (within_any z.kat 0 _ _).mono ?_
                       rintro e w2 ⟨rfl, rfl⟩
                       rw [HC.out]
                       go_wp2_with fail
                       refine (within_any z.klen 1 _ _).mono ?_
                       rintro e w2 ⟨rfl, rfl⟩
                       rw [HE.out]
                       go_wp2_with fail
                       go_ret
                       exact ⟨by unfold kvalP; rw [HK.out, HO.out, HM.out, HL.out, HZ.out, if_pos rfl, HA.out, HC.out, HE.out, HF.out]; rfl, HBx.out⟩
                     · have HF := Lib.hid hq3
                       have hq3l : z.kat + z.klen ≤ len := of_decide_eq_true hq3
                       clear hq3
                       cases hq4 : inP z.area 2 8
                       · have HG := Lib.hid hq4
                         clear hq4
                         go_wp2_with fail
                         refine (within_any z.kat 0 _ _).mono ?_
                         rintro e w2 ⟨rfl, rfl⟩
                         rw [HC.out]
                         go_wp2_with fail
                         refine (within_any z.klen 1 _ _).mono ?_
                         rintro e w2 ⟨rfl, rfl⟩
                         rw [HE.out]
                         go_wp2_with fail
                         refine (within_any z.area 2 8 _).mono ?_
                         rintro e w2 ⟨rfl, rfl⟩
                         rw [HG.out]
                         go_wp2_with fail
                         go_ret
                         exact ⟨by unfold kvalP; rw [HK.out, HO.out, HM.out, HL.out, HZ.out, if_pos rfl, HA.out, HC.out, HE.out, HF.out, HG.out]; rfl, HBx.out⟩
                       · have HG := Lib.hid hq4
                         clear hq4
                         cases hq5 : inP z.fivl 0 90
                         · have HH := Lib.hid hq5
                           clear hq5
                           go_wp2_with fail
                           refine (within_any z.kat 0 _ _).mono ?_
                           rintro e w2 ⟨rfl, rfl⟩
                           rw [HC.out]
                           go_wp2_with fail
                           refine (within_any z.klen 1 _ _).mono ?_
                           rintro e w2 ⟨rfl, rfl⟩
                           rw [HE.out]
                           go_wp2_with fail
                           refine (within_any z.area 2 8 _).mono ?_
                           rintro e w2 ⟨rfl, rfl⟩
                           rw [HG.out]
                           go_wp2_with fail
                           refine (within_any z.fivl 0 90 _).mono ?_
                           rintro e w2 ⟨rfl, rfl⟩
                           rw [HH.out]
                           go_wp2_with fail
                           go_ret
                           exact ⟨by unfold kvalP; rw [HK.out, HO.out, HM.out, HL.out, HZ.out, if_pos rfl, HA.out, HC.out, HE.out, HF.out, HG.out, HH.out]; rfl, HBx.out⟩
                         · have HH := Lib.hid hq5
                           clear hq5
                           have w5a : IntKind.i64.wrap (z.area - 1) = z.area - 1 := IntWalk.i64_in _ (by have h1 := HG.out; simp [inP] at h1; omega)
                           cases hq6 : inP z.fare 0 (z.area - 1)
                           · have HI := Lib.hid hq6
                             clear hq6
                             go_wp2_with fail
                             refine (within_any z.kat 0 _ _).mono ?_
                             rintro e w2 ⟨rfl, rfl⟩
                             rw [HC.out]
                             go_wp2_with fail
                             refine (within_any z.klen 1 _ _).mono ?_
                             rintro e w2 ⟨rfl, rfl⟩
                             rw [HE.out]
                             go_wp2_with fail
                             refine (within_any z.area 2 8 _).mono ?_
                             rintro e w2 ⟨rfl, rfl⟩
                             rw [HG.out]
                             go_wp2_with fail
                             refine (within_any z.fivl 0 90 _).mono ?_
                             rintro e w2 ⟨rfl, rfl⟩
                             rw [HH.out]
                             go_wp2_with fail
                             refine (within_any z.fare 0 _ _).mono ?_
                             rintro e w2 ⟨rfl, rfl⟩
                             rw [HI.out]
                             go_wp2_with fail
                             go_ret
                             exact ⟨by unfold kvalP; rw [HK.out, HO.out, HM.out, HL.out, HZ.out, if_pos rfl, HA.out, HC.out, HE.out, HF.out, HG.out, HH.out, HI.out]; rfl, HBx.out⟩
                           · have HI := Lib.hid hq6
                             clear hq6
                             go_wp2_with fail
                             refine (within_any z.kat 0 _ _).mono ?_
                             rintro e w2 ⟨rfl, rfl⟩
                             rw [HC.out]
                             go_wp2_with fail
                             refine (within_any z.klen 1 _ _).mono ?_
                             rintro e w2 ⟨rfl, rfl⟩
                             rw [HE.out]
                             go_wp2_with fail
                             refine (within_any z.area 2 8 _).mono ?_
                             rintro e w2 ⟨rfl, rfl⟩
                             rw [HG.out]
                             go_wp2_with fail
                             refine (within_any z.fivl 0 90 _).mono ?_
                             rintro e w2 ⟨rfl, rfl⟩
                             rw [HH.out]
                             go_wp2_with fail
                             refine (within_any z.fare 0 _ _).mono ?_
                             rintro e w2 ⟨rfl, rfl⟩
                             rw [HI.out]
                             go_wp2_with fail
                             go_ret
                             exact ⟨by unfold kvalP; rw [HK.out, HO.out, HM.out, HL.out, HZ.out, if_pos rfl, HA.out, HC.out, HE.out, HF.out, HG.out, HH.out, HI.out]; rfl, HBx.out⟩
             · have H3 := Lib.hid h3
               have HB3 := Lib.hid ((Below.refl wq.heap.size wq).alloc (Nat.le_refl _) (.cells #[.int .i64 z.kat, .int .i64 z.klen, .int .i64 z.area, .int .i64 z.fivl, .int .i64 z.fare] 3))
               go_wp2_with fail
               refine (zeros_any [z.kat, z.klen, z.area, z.fivl, z.fare] wq.heap.size 5 (wq.alloc (.cells #[.int .i64 z.kat, .int .i64 z.klen, .int .i64 z.area, .int .i64 z.fivl, .int .i64 z.fare] 3)) (by simp) (heap_alloc_new wq _)).mono ?_
               rintro e w2 ⟨rfl, rfl⟩
               go_wp2_with fail
               go_ret
               exact ⟨by unfold kvalP; rw [HK.out, HO.out, HM.out, HL.out, HZ.out, if_neg H3.out]; rfl, HBx.out.trans (HB3.out.mono HBx.out.size)⟩
end

section
open Go.RowKit Go.Sort
variable {z : Rest}

end

end Go.Proofs.YtckpepfkfjdnhaaGreatDoor

/-
  Walk: the law ScrubTables. Conditions: a table in memory; the library's table in memory.
-/
import Derived.Test.YtcidbmldbikknaaGreatDoorF13
import Derived.Test.YtcidbmldbikknaaGreatDoorGD
import Derived.Test.YtcidbmldbikknaaGreatDoorG4
import Derived.Test.YtcidbmldbikknaaGreatDoorG5
import Derived.Test.YtcidbmldbikknaaGreatDoorE13
import Derived.Test.YtcidbmldbikknaaGreatDoorE14
import Derived.Test.YtcidbmldbikknaaGreatDoorE17
namespace Go.Proofs.YtcidbmldbikknaaGreatDoor
open Go.RowKit Go.Sort
attribute [local go_sem ↓] loadTab_down loadSc_down storeSc_down

theorem few_tab {nm : By} {l : List Lab} (h : fewTab nm l = true) : l.length ≤ 40 ∧ ∀ x ∈ l, x.ext.length ≤ 30 := by
  simp only [fewTab, Bool.and_eq_true, decide_eq_true_eq, List.all_eq_true, fewLab] at h
  exact ⟨h.2, fun x hx => (h.1.1 x hx).2⟩
theorem tentR_sub : ∀ (l : List Rn), ∀ r ∈ tentR l, r ∈ l
  | [], _, h => by simp [tentR] at h
  | x :: l, r, h => by
    unfold tentR at h
    split at h
    · exact List.mem_cons_of_mem _ (tentR_sub l r h)
    · rcases List.mem_cons.1 h with rfl | h
      · exact List.mem_cons_self
      · exact List.mem_cons_of_mem _ (tentR_sub l r h)
theorem ints_mono {w : World} {B B' : Nat} {a : Option Addr} {l : List Int} (h : IntsAt w B a l) (hB : B ≤ B') : IntsAt w B' a l :=
  ⟨fun hl => by obtain ⟨b, off, h1, h2, h3⟩ := h.cells hl; exact ⟨b, off, h1, Nat.lt_of_lt_of_le h2 hB, h3⟩⟩
def shI (l : List Lab) : List Int := (sharedP l).map fun (n : Nat) => (n : Int)
/-- What a scrub of a table gives. -/
def ScRes (tr : Int) (l : List Lab) (w : World) (e : Ending) (w' : World) : Prop :=
  ∃ (ta : Option Addr) (tc : Nat) (sa : Option Addr) (sc : Nat), e = .returned (.agg (scV (freeN tr l) (usedN tr l) (.slice ta (tentP l).length tc) (.slice sa (shI l).length sc))) ∧ Runs w' w'.heap.size ta (tentP l) ∧ IntsAt w' w'.heap.size sa (shI l) ∧ Below w.heap.size w w'
theorem scres_of {w w' : World} {tr : Int} {l : List Lab} {B : Nat} {a : Option Addr} {W : World} (h : Labs W B a l) {V2 V3 : Value} (h2 : w'.ownsRow w.heap.size 40 2 V2 (tentP l).length (refsF (tentP l))) (h3 : w'.ownsRow w.heap.size 3 1 V3 (sharedP l).length ((sharedP l).map iv)) (hb : Below w.heap.size w w') :
    ScRes tr l w (.returned (.agg (scV (freeN tr l) (usedN tr l) V2 V3))) w' := by
  obtain ⟨ta, tc, rfl, hr⟩ := runs_of_row h2 (fun r hr => refsU_ok l h.ok r ((List.mergeSort_perm _ _).mem_iff.1 (tentR_sub _ r hr)))
  obtain ⟨sa, sc, rfl, hi⟩ := ints_of_nats h3
  exact ⟨ta, tc, sa, sc, by unfold shI; rw [List.length_map], hr, hi, hb⟩
theorem table_res (w : World) (B : Nat) (a : Option Addr) (cap : Nat) (nm : By) (tr : Int) (l : List Lab) (h : Labs w B a l) (hB : B ≤ w.heap.size) (hl : l.length ≤ 1000) (he : ∀ x ∈ l, x.ext.length ≤ 1000) :
    Calls Tryz.prog 10 #[.agg (tabC nm tr a l.length cap)] w (ScRes tr l w) := by
  refine (table_any w B a cap nm tr l h hB hl he).mono ?_
  rintro e w' ⟨V2, V3, rfl, h2, h3, hb⟩
  exact scres_of h h2 h3 hb
theorem rtable_res (w : World) (B : Nat) (a : Option Addr) (cap : Nat) (nm : By) (tr : Int) (l : List Lab) (h : Labs w B a l) (hB : B ≤ w.heap.size) (hl : l.length ≤ 1000) (he : ∀ x ∈ l, x.ext.length ≤ 1000) :
    Calls Tryz.prog 11 #[.agg (tabC nm tr a l.length cap)] w (ScRes tr l w) := by
  refine (rtable_any w B a cap nm tr l h hB hl he).mono ?_
  rintro e w' ⟨V2, V3, rfl, h2, h3, hb⟩
  exact scres_of h h2 h3 hb
theorem bytesP_len (l : List Lab) : (bytesP l).length ≤ l.length := by
  unfold bytesP refsP
  rw [List.length_map, sortR_len]
  exact refsU_len l
theorem shI_len (l : List Lab) : (shI l).length ≤ 128 := by
  unfold shI sharedP
  rw [List.length_map]
  exact sharedS_len _ _
theorem tentP_len (l : List Lab) : (tentP l).length ≤ l.length := by
  unfold tentP refsP
  refine Nat.le_trans (tentR_len _) ?_
  rw [sortR_len]
  exact refsU_len l

theorem take_at {P : Program} {md} {ops : Array Oper} {Q : Exit → Act → World → Prop} {S : World → Prop} {i : Nat} {oi : Oper} {v : Value} {fuel : Nat} {listed : Array Bool} {a : Act} {w : World} {d : Option Tmp} (hi : ops[i]? = some oi) (hd : oi.dst = d)
    (hs : Region.noSelect ops = true) (hf : Region.free md ops listed i = true) (hr : (Region.ready md ops listed).contains i = true)
    (hQ : ∀ c a w, Q (.panic c) (a.put oi.dst v) w → Q (.panic c) a w) (hy : YieldsIf P ops S oi v a) (hS : S w)
    (h : wpAnyH P md ops Q S fuel (listed.setIfInBounds i true) (a.put d v) w) : wpAnyH P md ops Q S (fuel + 1) listed a w := by
  subst hd
  exact wpAnyH_take hi hs hf hr hQ hy hS h

set_option maxRecDepth 100000 in
set_option maxHeartbeats 16000000 in
theorem law_tables (w : World) (B : Nat) (a : Option Addr) (cap : Nat) (nm : By) (tr : Int) (l : List Lab) (h : Labs w B a l) (hB : B ≤ w.heap.size) (htab : TabB B w)
    (hl : l.length ≤ 9223372036854775807) (hn : nm.length ≤ 9223372036854775807) (he : ∀ x ∈ l, x.ext.length ≤ 9223372036854775807)
    (f u : Int) (ta : Option Addr) (tn tc : Nat) (sa : Option Addr) (sn sc : Nat) (ba : Option Addr) (bn bc : Nat) (h1 : tn ≤ 9223372036854775807) (h2 : sn ≤ 9223372036854775807) (h3 : bn ≤ 9223372036854775807) :
    Calls Tryz.prog 3 #[.agg (tabC nm tr a l.length cap), .agg (scC f u ta tn tc sa sn sc ba bn bc)] w fun e w' => e = .returned (.bool true) ∧ Below w.heap.size w w' := by
  obtain ⟨W0, hW0⟩ : ∃ W0, W0 = (w.alloc (.cells (tabC nm tr a l.length cap) 24)).alloc (.cells (scC f u ta tn tc sa sn sc ba bn bc) 29) := ⟨_, rfl⟩
  have hb0 : Below w.heap.size w W0 := by rw [hW0]; exact ((Below.refl _ _).alloc (by simp) _).alloc (by simp) _
  have hd0 : W0.heap[w.heap.size]? = some (.cells (tabC nm tr a l.length cap) 24 (0, 0)) := by rw [hW0]; exact (halloc _ _ (by simp)).trans (heap_alloc_new _ _)
  have he0 : W0.heap[w.heap.size + 1]? = some (.cells (scC f u ta tn tc sa sn sc ba bn bc) 29 (0, 0)) := by rw [hW0]; exact two_new _ _ _ _ _
  have HB0 := Lib.hid hb0
  have HW := Lib.hid (fun (V : World) (hV : Below W0.heap.size W0 V) => hb0.trans (hV.mono hb0.size))
  have HD := Lib.hid (fun (V : World) (hV : Below W0.heap.size W0 V) => show V.heap[w.heap.size]? = some (.cells (tabC nm tr a l.length cap) 24 (0, 0)) from (hV.block _ (lt_of_block hd0)).trans hd0)
  have HE := Lib.hid (fun (V : World) (hV : Below W0.heap.size W0 V) => show V.heap[w.heap.size + 1]? = some (.cells (scC f u ta tn tc sa sn sc ba bn bc) 29 (0, 0)) from (hV.block _ (lt_of_block he0)).trans he0)
  have HAW := Lib.hid (fun W (hb : Below w.heap.size w W) => awake_any W B (htab.on (hb.mono hB)) (Nat.le_trans hB hb.size))
  have HFW := Lib.hid (fun W (hb : Below w.heap.size w W) => few8_any W B a cap nm tr l (h.below (hb.mono hB)) (Nat.le_trans hB hb.size) hl hn he)
  have HFX := Lib.hid (fun W => few15_any f u ta tn tc sa sn sc ba bn bc W h1 h2 h3)
  have HW0 := Lib.hid hW0
  cases hf : fewTab nm l with
  | false =>
    rw [hf] at HFW
    clear h hW0 htab hd0 hb0 he0
    go_enter Tryz.func3, Tryz.ntmps3
    go_wp2_with fail
    rw [← HW0.out]
    refine (HAW.out W0 HB0.out).mono ?_
    rintro e w1 ⟨rfl, hb1⟩
    have HB1 := Lib.hid hb1
    have dl1 := loadTab_at (HD.out w1 hb1) rfl
    clear hb1
    go_wp2_with fail
    refine (HFW.out w1 (HW.out w1 HB1.out)).mono ?_
    rintro e w2 ⟨rfl, hb2⟩
    have HB2 := Lib.hid (HB1.out.trans (hb2.mono HB1.out.size))
    clear hb2 dl1
    go_wp2_with fail
    refine (HAW.out w2 (HW.out w2 HB2.out)).mono ?_
    rintro e w3 ⟨rfl, hb3⟩
    have HB3 := Lib.hid (HB2.out.trans (hb3.mono HB2.out.size))
    clear hb3
    go_wp2_with fail
    go_ret
    exact ⟨rfl, HW.out _ HB3.out⟩
  | true =>
    rw [hf] at HFW
    cases hq : fewSc tn sn bn with
    | false =>
      rw [hq] at HFX
      clear h hW0 htab hd0 hb0 he0
      go_enter Tryz.func3, Tryz.ntmps3
      go_wp2_with fail
      rw [← HW0.out]
      refine (HAW.out W0 HB0.out).mono ?_
      rintro e w1 ⟨rfl, hb1⟩
      have HB1 := Lib.hid hb1
      have dl1 := loadTab_at (HD.out w1 hb1) rfl
      clear hb1
      go_wp2_with fail
      refine (HFW.out w1 (HW.out w1 HB1.out)).mono ?_
      rintro e w2 ⟨rfl, hb2⟩
      have HB2 := Lib.hid (HB1.out.trans (hb2.mono HB1.out.size))
      have dl2 := loadSc_at (HE.out w2 HB2.out) rfl
      clear hb2 dl1
      go_wp2_with fail
      refine (HFX.out w2).mono ?_
      rintro e w3 ⟨rfl, hb3⟩
      have HB3 := Lib.hid (HB2.out.trans (hb3.mono HB2.out.size))
      clear hb3 dl2
      go_wp2_with fail
      refine (HAW.out w3 (HW.out w3 HB3.out)).mono ?_
      rintro e w4 ⟨rfl, hb4⟩
      have HB4 := Lib.hid (HB3.out.trans (hb4.mono HB3.out.size))
      clear hb4
      go_wp2_with fail
      go_ret
      exact ⟨rfl, HW.out _ HB4.out⟩
    | true =>
      rw [hq] at HFX
      have hsm : sn ≤ 130 ∧ bn ≤ 100 := by
        simp only [fewSc, Bool.and_eq_true, decide_eq_true_eq] at hq
        omega
      obtain ⟨hl40, he30⟩ := few_tab hf
      have hle : ∀ x ∈ l, x.ext.length ≤ 1000 := fun x hx => Nat.le_trans (he30 x hx) (by omega)
      have HP1 := Lib.hid (fun W (hb : Below w.heap.size w W) => table_res W B a cap nm tr l (h.below (hb.mono hB)) (Nat.le_trans hB hb.size) (by omega) hle)
      have HP2 := Lib.hid (fun W (hb : Below w.heap.size w W) => rtable_res W B a cap nm tr l (h.below (hb.mono hB)) (Nat.le_trans hB hb.size) (by omega) hle)
      have HY1 := Lib.hid (fun W (hb : Below w.heap.size w W) => bytes_any W B a cap nm tr l (h.below (hb.mono hB)) (Nat.le_trans hB hb.size) (by omega) hle)
      have HY2 := Lib.hid (fun W (hb : Below w.heap.size w W) => rbytes_any W B a cap nm tr l (h.below (hb.mono hB)) (Nat.le_trans hB hb.size) (by omega) hle)
      have HC := Lib.hid (fun W => clean_any f u ta tn tc sa sn sc ba bn bc W (by omega) (by omega))
      have hbl := bytesP_len l
      have htl := tentP_len l
      have hsl := shI_len l
      unfold ScRes at HP1 HP2
      generalize bytesP l = BP at HY1 HY2 hbl
      generalize tentP l = TP at HP1 HP2 htl
      generalize shI l = SP at HP1 HP2 hsl
      generalize freeN tr l = FN at HP1 HP2
      generalize usedN tr l = UN at HP1 HP2
      have HBL := Lib.hid (show BP.length ≤ 40 by omega)
      have HTL := Lib.hid (show TP.length ≤ 40 by omega)
      have HSL := Lib.hid hsl
      have HSM := Lib.hid hsm
      clear h hW0 htab hd0 hb0 he0 hbl htl hsl hsm hle he30 hl40
      go_enter Tryz.func3, Tryz.ntmps3
      go_wp2_with fail
      rw [← HW0.out]
      refine (HAW.out W0 HB0.out).mono ?_
      rintro e w1 ⟨rfl, hb1⟩
      have HB1 := Lib.hid hb1
      have dl1 := loadTab_at (HD.out w1 hb1) rfl
      clear hb1
      go_wp2_with fail
      refine (HFW.out w1 (HW.out w1 HB1.out)).mono ?_
      rintro e w2 ⟨rfl, hb2⟩
      have HB2 := Lib.hid (HB1.out.trans (hb2.mono HB1.out.size))
      have dl2 := loadSc_at (HE.out w2 HB2.out) rfl
      clear hb2 dl1
      go_wp2_with fail
      refine (HFX.out w2).mono ?_
      rintro e w3 ⟨rfl, hb3⟩
      have HB3 := Lib.hid (HB2.out.trans (hb3.mono HB2.out.size))
      have HBX := Lib.hid (below_drewN HB3.out 1)
      clear hb3 dl2
      have HS := Lib.hid (fun (V : World) (hV : Below W0.heap.size W0 V) => show (loadTab ⟨w.heap.size, 0, none⟩).run Tryz.prog V = .ok (.agg (tabC nm tr a l.length cap)) V ∧ (loadSc ⟨w.heap.size + 1, 0, none⟩).run Tryz.prog V = .ok (.agg (scC f u ta tn tc sa sn sc ba bn bc)) V ∧ V.cell? ⟨w.heap.size + 1, 3, none⟩ = some (.slice sa sn sc) ∧ V.cell? ⟨w.heap.size + 1, 4, none⟩ = some (.slice ba bn bc) from
        ⟨loadTab_at (HD.out V hV) rfl, loadSc_at (HE.out V hV) rfl, cell_at (i := 3) (v := .slice sa sn sc) (HE.out V hV) rfl, cell_at (i := 4) (v := .slice ba bn bc) (HE.out V hV) rfl⟩)
      obtain ⟨q, hcq⟩ : ∃ q : Bool, (decide (sn = 0) && decide (bn = 0)) = q := ⟨_, rfl⟩
      rw [hcq] at HC
      have h3 : (sn = 0 ∧ bn = 0) ∨ (sn = 0 ∧ bn ≠ 0) ∨ sn ≠ 0 := by omega
      obtain ⟨e0, e1, e2, e3⟩ := HS.out w3.drew HBX.out
      rcases h3 with ⟨rfl, rfl⟩ | ⟨rfl, hbn⟩ | hsn
      · obtain rfl : q = true := by rw [← hcq]; rfl
        clear hcq
        go_wp2_with fail
        go_region_held3 (fun w' => (loadTab ⟨w.heap.size, 0, none⟩).run Tryz.prog w' = .ok (.agg (tabC nm tr a l.length cap)) w' ∧ (loadSc ⟨w.heap.size + 1, 0, none⟩).run Tryz.prog w' = .ok (.agg (scC f u ta tn tc sa 0 sc ba 0 bc)) w' ∧ w'.cell? ⟨w.heap.size + 1, 3, none⟩ = some (.slice sa 0 sc) ∧ w'.cell? ⟨w.heap.size + 1, 4, none⟩ = some (.slice ba 0 bc)) (first | with_reducible assumption | with_reducible exact ⟨by assumption, by assumption, by assumption, by assumption⟩ | fail)
          ((first
            | (go_at_call 10
               refine (HP1.out w3.drew (HW.out _ HBX.out)).mono ?_
               rintro e w7 ⟨ta7, tc7, sa7, sc7, rfl, hr7, hi7, hb7⟩
               have HB7 := Lib.hid (HBX.out.trans (hb7.mono HBX.out.size))
               have HT7 := Lib.hid (HS.out w7 HB7.out)
               have m70 := HT7.out.1
               have m71 := HT7.out.2.1
               have m72 := HT7.out.2.2.1
               have m73 := HT7.out.2.2.2
               have HR7 := Lib.hid hr7
               have HI7 := Lib.hid hi7
               clear hb7 hr7 hi7)
            | (go_at_call 11
               refine (HP2.out w7 (HW.out _ HB7.out)).mono ?_
               rintro e w8 ⟨ta8, tc8, sa8, sc8, rfl, hr8, hi8, hb8⟩
               have HB8 := Lib.hid (HB7.out.trans (hb8.mono HB7.out.size))
               have HT8 := Lib.hid (HS.out w8 HB8.out)
               have m80 := HT8.out.1
               have m81 := HT8.out.2.1
               have m82 := HT8.out.2.2.1
               have m83 := HT8.out.2.2.2
               have HSA := Lib.hid (same15_any w8 FN UN ta7 ta8 tc7 tc8 sa7 sa8 sc7 sc8 TP SP ((HR7.out.below hb8).mono hb8.size) hr8 (ints_mono (HI7.out.below hb8) hb8.size) hi8 (by have := HTL.out; omega) (by have := HSL.out; omega))
               clear hb8 hr8 hi8)
            | (go_at_call 9
               refine (HSA.out).mono ?_
               rintro e w9 ⟨rfl, hb9⟩
               have HB9 := Lib.hid (HB8.out.trans (hb9.mono HB8.out.size))
               have HT9 := Lib.hid (HS.out w9 HB9.out)
               have m90 := HT9.out.1
               have m91 := HT9.out.2.1
               have m92 := HT9.out.2.2.1
               have m93 := HT9.out.2.2.2
               clear hb9)
            | (go_at_call 13
               refine (HY1.out w9 (HW.out _ HB9.out)).mono ?_
               rintro e w10 ⟨v10, rfl, ho10, hb10⟩
               have HB10 := Lib.hid (HB9.out.trans (hb10.mono HB9.out.size))
               have HT10 := Lib.hid (HS.out w10 HB10.out)
               have m100 := HT10.out.1
               have m101 := HT10.out.2.1
               have m102 := HT10.out.2.2.1
               have m103 := HT10.out.2.2.2
               obtain ⟨a10, c10, rfl, hi10⟩ := ints_of_row ho10
               have HI10 := Lib.hid hi10
               clear hb10 ho10 hi10)
            | (go_at_call 14
               refine (HY2.out w10 (HW.out _ HB10.out)).mono ?_
               rintro e w11 ⟨v11, rfl, ho11, hb11⟩
               have HB11 := Lib.hid (HB10.out.trans (hb11.mono HB10.out.size))
               have HT11 := Lib.hid (HS.out w11 HB11.out)
               have m110 := HT11.out.1
               have m111 := HT11.out.2.1
               have m112 := HT11.out.2.2.1
               have m113 := HT11.out.2.2.2
               have HI1 := Lib.hid (HI10.out.below hb11)
               obtain ⟨a11, c11, rfl, hi11⟩ := ints_of_row ho11
               have HRI := Lib.hid (rints_any w11 w10.heap.size w11.heap.size a10 a11 c10 c11 BP BP HI1.out hi11 (by have := HBL.out; omega) (by have := HBL.out; omega))
               rw [show decide (BP = BP) = true by simp] at HRI
               clear hb11 ho11 hi11)
            | (go_at_call 12
               refine (HRI.out).mono ?_
               rintro e w12 ⟨rfl, hb12⟩
               have HB12 := Lib.hid (HB11.out.trans (hb12.mono HB11.out.size))
               have HT12 := Lib.hid (HS.out w12 HB12.out)
               have m120 := HT12.out.1
               have m121 := HT12.out.2.1
               have m122 := HT12.out.2.2.1
               have m123 := HT12.out.2.2.2
               clear hb12)
            | (go_at_call 15
               refine (HC.out w12).mono ?_
               rintro e w13 ⟨rfl, hb13⟩
               have HB13 := Lib.hid (HB12.out.trans (hb13.mono HB12.out.size))
               have HT13 := Lib.hid (HS.out w13 HB13.out)
               have m130 := HT13.out.1
               have m131 := HT13.out.2.1
               have m132 := HT13.out.2.2.1
               have m133 := HT13.out.2.2.2
               clear hb13)))
        go_wp2_with fail
        go_ret
        exact ⟨rfl, HW.out _ HB13.out⟩
      · obtain rfl : q = false := by rw [← hcq]; simp [hbn]
        clear hcq
        have k1 : ¬ (bn : Int) = 0 := by omega
        have k2 : decide ((bn : Int) = 0) = false := decide_eq_false k1
        have k3 : decide (bn = 0) = false := decide_eq_false hbn
        have k4 : ((bn : Int) == 0) = false := beq_eq_false_iff_ne.2 k1
        go_wp2_with fail
        go_region_held3 (fun w' => (loadTab ⟨w.heap.size, 0, none⟩).run Tryz.prog w' = .ok (.agg (tabC nm tr a l.length cap)) w' ∧ (loadSc ⟨w.heap.size + 1, 0, none⟩).run Tryz.prog w' = .ok (.agg (scC f u ta tn tc sa 0 sc ba bn bc)) w' ∧ w'.cell? ⟨w.heap.size + 1, 3, none⟩ = some (.slice sa 0 sc) ∧ w'.cell? ⟨w.heap.size + 1, 4, none⟩ = some (.slice ba bn bc)) (first | with_reducible assumption | with_reducible exact ⟨by assumption, by assumption, by assumption, by assumption⟩ | fail)
          ((first
            | (go_at_call 10
               refine (HP1.out w3.drew (HW.out _ HBX.out)).mono ?_
               rintro e w7 ⟨ta7, tc7, sa7, sc7, rfl, hr7, hi7, hb7⟩
               have HB7 := Lib.hid (HBX.out.trans (hb7.mono HBX.out.size))
               have HT7 := Lib.hid (HS.out w7 HB7.out)
               have m70 := HT7.out.1
               have m71 := HT7.out.2.1
               have m72 := HT7.out.2.2.1
               have m73 := HT7.out.2.2.2
               have HR7 := Lib.hid hr7
               have HI7 := Lib.hid hi7
               clear hb7 hr7 hi7)
            | (go_at_call 11
               refine (HP2.out w7 (HW.out _ HB7.out)).mono ?_
               rintro e w8 ⟨ta8, tc8, sa8, sc8, rfl, hr8, hi8, hb8⟩
               have HB8 := Lib.hid (HB7.out.trans (hb8.mono HB7.out.size))
               have HT8 := Lib.hid (HS.out w8 HB8.out)
               have m80 := HT8.out.1
               have m81 := HT8.out.2.1
               have m82 := HT8.out.2.2.1
               have m83 := HT8.out.2.2.2
               have HSA := Lib.hid (same15_any w8 FN UN ta7 ta8 tc7 tc8 sa7 sa8 sc7 sc8 TP SP ((HR7.out.below hb8).mono hb8.size) hr8 (ints_mono (HI7.out.below hb8) hb8.size) hi8 (by have := HTL.out; omega) (by have := HSL.out; omega))
               clear hb8 hr8 hi8)
            | (go_at_call 9
               refine (HSA.out).mono ?_
               rintro e w9 ⟨rfl, hb9⟩
               have HB9 := Lib.hid (HB8.out.trans (hb9.mono HB8.out.size))
               have HT9 := Lib.hid (HS.out w9 HB9.out)
               have m90 := HT9.out.1
               have m91 := HT9.out.2.1
               have m92 := HT9.out.2.2.1
               have m93 := HT9.out.2.2.2
               clear hb9)
            | (go_at_call 13
               refine (HY1.out w9 (HW.out _ HB9.out)).mono ?_
               rintro e w10 ⟨v10, rfl, ho10, hb10⟩
               have HB10 := Lib.hid (HB9.out.trans (hb10.mono HB9.out.size))
               have HT10 := Lib.hid (HS.out w10 HB10.out)
               have m100 := HT10.out.1
               have m101 := HT10.out.2.1
               have m102 := HT10.out.2.2.1
               have m103 := HT10.out.2.2.2
               obtain ⟨a10, c10, rfl, hi10⟩ := ints_of_row ho10
               have HI10 := Lib.hid hi10
               clear hb10 ho10 hi10)
            | (go_at_call 14
               refine (HY2.out w10 (HW.out _ HB10.out)).mono ?_
               rintro e w11 ⟨v11, rfl, ho11, hb11⟩
               have HB11 := Lib.hid (HB10.out.trans (hb11.mono HB10.out.size))
               have HT11 := Lib.hid (HS.out w11 HB11.out)
               have m110 := HT11.out.1
               have m111 := HT11.out.2.1
               have m112 := HT11.out.2.2.1
               have m113 := HT11.out.2.2.2
               have HI1 := Lib.hid (HI10.out.below hb11)
               obtain ⟨a11, c11, rfl, hi11⟩ := ints_of_row ho11
               have HRI := Lib.hid (rints_any w11 w10.heap.size w11.heap.size a10 a11 c10 c11 BP BP HI1.out hi11 (by have := HBL.out; omega) (by have := HBL.out; omega))
               rw [show decide (BP = BP) = true by simp] at HRI
               clear hb11 ho11 hi11)
            | (go_at_call 12
               refine (HRI.out).mono ?_
               rintro e w12 ⟨rfl, hb12⟩
               have HB12 := Lib.hid (HB11.out.trans (hb12.mono HB11.out.size))
               have HT12 := Lib.hid (HS.out w12 HB12.out)
               have m120 := HT12.out.1
               have m121 := HT12.out.2.1
               have m122 := HT12.out.2.2.1
               have m123 := HT12.out.2.2.2
               clear hb12)
            | (go_at_call 15
               refine (HC.out w12).mono ?_
               rintro e w13 ⟨rfl, hb13⟩
               have HB13 := Lib.hid (HB12.out.trans (hb13.mono HB12.out.size))
               have HT13 := Lib.hid (HS.out w13 HB13.out)
               have m130 := HT13.out.1
               have m131 := HT13.out.2.1
               have m132 := HT13.out.2.2.1
               have m133 := HT13.out.2.2.2
               clear hb13)))
        go_wp2_with fail
        go_ret
        exact ⟨rfl, HW.out _ HB13.out⟩
      · obtain rfl : q = false := by rw [← hcq]; simp [hsn]
        clear hcq
        have k1 : ¬ (sn : Int) = 0 := by omega
        have k2 : decide ((sn : Int) = 0) = false := decide_eq_false k1
        have k3 : decide (sn = 0) = false := decide_eq_false hsn
        have k4 : ((sn : Int) == 0) = false := beq_eq_false_iff_ne.2 k1
        go_wp2_with fail
        refine wp_region_held_drew (S := fun w' => (loadTab ⟨w.heap.size, 0, none⟩).run Tryz.prog w' = .ok (.agg (tabC nm tr a l.length cap)) w' ∧ (loadSc ⟨w.heap.size + 1, 0, none⟩).run Tryz.prog w' = .ok (.agg (scC f u ta tn tc sa sn sc ba bn bc)) w' ∧ w'.cell? ⟨w.heap.size + 1, 3, none⟩ = some (.slice sa sn sc) ∧ w'.cell? ⟨w.heap.size + 1, 4, none⟩ = some (.slice ba bn bc)) (by kernel_rfl) ⟨e0, e1, e2, e3⟩ (fun hHeld => ?_)
        refine take_at (i := 0) (v := .agg (tabC nm tr a l.length cap)) (d := some 18) rfl rfl (by kernel_rfl) (by kernel_rfl) (by kernel_rfl) (fun _ _ _ h => h) (Or.inl ⟨by rfl, ?hy0⟩) (by assumption) ?rest0
        case hy0 =>
          intro W hSw
          (try dsimp only at hSw)
          go_simp
        try simp only [Act.put, List.setIfInBounds_toArray, List.set_cons_zero, List.set_cons_succ]
        refine take_at (i := 2) (v := .agg (tabC nm tr a l.length cap)) (d := some 20) rfl rfl (by kernel_rfl) (by kernel_rfl) (by kernel_rfl) (fun _ _ _ h => h) (Or.inl ⟨by rfl, ?hy2⟩) (by assumption) ?rest2
        case hy2 =>
          intro W hSw
          (try dsimp only at hSw)
          go_simp
        try simp only [Act.put, List.setIfInBounds_toArray, List.set_cons_zero, List.set_cons_succ]
        refine wpAnyH_ready (rs := [1]) (by kernel_rfl) (by simp) ?_
        refine AllReadyH.cons rfl (fun K hK => ?_) AllReadyH.nil
        go_simp
        refine (HP1.out w3.drew (HW.out _ HBX.out)).mono ?_
        rintro e w7 ⟨ta7, tc7, sa7, sc7, rfl, hr7, hi7, hb7⟩
        have HB7 := Lib.hid (HBX.out.trans (hb7.mono HBX.out.size))
        have HT7 := Lib.hid (HS.out w7 HB7.out)
        have m70 := HT7.out.1
        have m71 := HT7.out.2.1
        have m72 := HT7.out.2.2.1
        have m73 := HT7.out.2.2.2
        have HR7 := Lib.hid hr7
        have HI7 := Lib.hid hi7
        clear hb7 hr7 hi7
        (try go_wp2_with fail)
        refine hK.out _ _ ⟨m70, m71, m72, m73⟩ (fun hHeld => ?_)
        clear hK K
        try simp only [Act.put, List.setIfInBounds_toArray, List.set_cons_zero, List.set_cons_succ]
        refine wpAnyH_ready (rs := [3]) (by kernel_rfl) (by simp) ?_
        refine AllReadyH.cons rfl (fun K hK => ?_) AllReadyH.nil
        go_simp
        refine (HP2.out w7 (HW.out _ HB7.out)).mono ?_
        rintro e w8 ⟨ta8, tc8, sa8, sc8, rfl, hr8, hi8, hb8⟩
        have HB8 := Lib.hid (HB7.out.trans (hb8.mono HB7.out.size))
        have HT8 := Lib.hid (HS.out w8 HB8.out)
        have m80 := HT8.out.1
        have m81 := HT8.out.2.1
        have m82 := HT8.out.2.2.1
        have m83 := HT8.out.2.2.2
        have HSA := Lib.hid (same15_any w8 FN UN ta7 ta8 tc7 tc8 sa7 sa8 sc7 sc8 TP SP ((HR7.out.below hb8).mono hb8.size) hr8 (ints_mono (HI7.out.below hb8) hb8.size) hi8 (by have := HTL.out; omega) (by have := HSL.out; omega))
        clear hb8 hr8 hi8
        (try go_wp2_with fail)
        refine hK.out _ _ ⟨m80, m81, m82, m83⟩ (fun hHeld => ?_)
        clear hK K
        try simp only [Act.put, List.setIfInBounds_toArray, List.set_cons_zero, List.set_cons_succ]
        refine wpAnyH_ready (rs := [4]) (by kernel_rfl) (by simp) ?_
        refine AllReadyH.cons rfl (fun K hK => ?_) AllReadyH.nil
        go_simp
        refine (HSA.out).mono ?_
        rintro e w9 ⟨rfl, hb9⟩
        have HB9 := Lib.hid (HB8.out.trans (hb9.mono HB8.out.size))
        have HT9 := Lib.hid (HS.out w9 HB9.out)
        have m90 := HT9.out.1
        have m91 := HT9.out.2.1
        have m92 := HT9.out.2.2.1
        have m93 := HT9.out.2.2.2
        clear hb9
        (try go_wp2_with fail)
        refine hK.out _ _ ⟨m90, m91, m92, m93⟩ (fun hHeld => ?_)
        clear hK K
        try simp only [Act.put, List.setIfInBounds_toArray, List.set_cons_zero, List.set_cons_succ]
        refine take_at (i := 5) (v := .bool true) (d := some 23) rfl rfl (by kernel_rfl) (by kernel_rfl) (by kernel_rfl) (fun _ _ _ h => h) (Or.inl ⟨by rfl, ?hy5⟩) (by assumption) ?rest5
        case hy5 =>
          intro W hSw
          (try dsimp only at hSw)
          go_simp
        try simp only [Act.put, List.setIfInBounds_toArray, List.set_cons_zero, List.set_cons_succ]
        refine take_at (i := 6) (v := .agg (tabC nm tr a l.length cap)) (d := some 24) rfl rfl (by kernel_rfl) (by kernel_rfl) (by kernel_rfl) (fun _ _ _ h => h) (Or.inl ⟨by rfl, ?hy6⟩) (by assumption) ?rest6
        case hy6 =>
          intro W hSw
          (try dsimp only at hSw)
          go_simp
        try simp only [Act.put, List.setIfInBounds_toArray, List.set_cons_zero, List.set_cons_succ]
        refine take_at (i := 8) (v := .agg (tabC nm tr a l.length cap)) (d := some 26) rfl rfl (by kernel_rfl) (by kernel_rfl) (by kernel_rfl) (fun _ _ _ h => h) (Or.inl ⟨by rfl, ?hy8⟩) (by assumption) ?rest8
        case hy8 =>
          intro W hSw
          (try dsimp only at hSw)
          go_simp
        try simp only [Act.put, List.setIfInBounds_toArray, List.set_cons_zero, List.set_cons_succ]
        refine wpAnyH_ready (rs := [7]) (by kernel_rfl) (by simp) ?_
        refine AllReadyH.cons rfl (fun K hK => ?_) AllReadyH.nil
        go_simp
        refine (HY1.out w9 (HW.out _ HB9.out)).mono ?_
        rintro e w10 ⟨v10, rfl, ho10, hb10⟩
        have HB10 := Lib.hid (HB9.out.trans (hb10.mono HB9.out.size))
        have HT10 := Lib.hid (HS.out w10 HB10.out)
        have m100 := HT10.out.1
        have m101 := HT10.out.2.1
        have m102 := HT10.out.2.2.1
        have m103 := HT10.out.2.2.2
        obtain ⟨a10, c10, rfl, hi10⟩ := ints_of_row ho10
        have HI10 := Lib.hid hi10
        clear hb10 ho10 hi10
        (try go_wp2_with fail)
        refine hK.out _ _ ⟨m100, m101, m102, m103⟩ (fun hHeld => ?_)
        clear hK K
        try simp only [Act.put, List.setIfInBounds_toArray, List.set_cons_zero, List.set_cons_succ]
        refine wpAnyH_ready (rs := [9]) (by kernel_rfl) (by simp) ?_
        refine AllReadyH.cons rfl (fun K hK => ?_) AllReadyH.nil
        go_simp
        refine (HY2.out w10 (HW.out _ HB10.out)).mono ?_
        rintro e w11 ⟨v11, rfl, ho11, hb11⟩
        have HB11 := Lib.hid (HB10.out.trans (hb11.mono HB10.out.size))
        have HT11 := Lib.hid (HS.out w11 HB11.out)
        have m110 := HT11.out.1
        have m111 := HT11.out.2.1
        have m112 := HT11.out.2.2.1
        have m113 := HT11.out.2.2.2
        have HI1 := Lib.hid (HI10.out.below hb11)
        obtain ⟨a11, c11, rfl, hi11⟩ := ints_of_row ho11
        have HRI := Lib.hid (rints_any w11 w10.heap.size w11.heap.size a10 a11 c10 c11 BP BP HI1.out hi11 (by have := HBL.out; omega) (by have := HBL.out; omega))
        rw [show decide (BP = BP) = true by simp] at HRI
        clear hb11 ho11 hi11
        (try go_wp2_with fail)
        refine hK.out _ _ ⟨m110, m111, m112, m113⟩ (fun hHeld => ?_)
        clear hK K
        try simp only [Act.put, List.setIfInBounds_toArray, List.set_cons_zero, List.set_cons_succ]
        refine wpAnyH_ready (rs := [10]) (by kernel_rfl) (by simp) ?_
        refine AllReadyH.cons rfl (fun K hK => ?_) AllReadyH.nil
        go_simp
        refine (HRI.out).mono ?_
        rintro e w12 ⟨rfl, hb12⟩
        have HB12 := Lib.hid (HB11.out.trans (hb12.mono HB11.out.size))
        have HT12 := Lib.hid (HS.out w12 HB12.out)
        have m120 := HT12.out.1
        have m121 := HT12.out.2.1
        have m122 := HT12.out.2.2.1
        have m123 := HT12.out.2.2.2
        clear hb12
        (try go_wp2_with fail)
        refine hK.out _ _ ⟨m120, m121, m122, m123⟩ (fun hHeld => ?_)
        clear hK K
        try simp only [Act.put, List.setIfInBounds_toArray, List.set_cons_zero, List.set_cons_succ]
        refine take_at (i := 11) (v := .bool true) (d := some 29) rfl rfl (by kernel_rfl) (by kernel_rfl) (by kernel_rfl) (fun _ _ _ h => h) (Or.inl ⟨by rfl, ?hy11⟩) (by assumption) ?rest11
        case hy11 =>
          intro W hSw
          (try dsimp only at hSw)
          go_simp
        try simp only [Act.put, List.setIfInBounds_toArray, List.set_cons_zero, List.set_cons_succ]
        refine take_at (i := 12) (v := .bool true) (d := some 30) rfl rfl (by kernel_rfl) (by kernel_rfl) (by kernel_rfl) (fun _ _ _ h => h) (Or.inl ⟨by rfl, ?hy12⟩) (by assumption) ?rest12
        case hy12 =>
          intro W hSw
          (try dsimp only at hSw)
          go_simp
        try simp only [Act.put, List.setIfInBounds_toArray, List.set_cons_zero, List.set_cons_succ]
        refine take_at (i := 13) (v := .agg (scC f u ta tn tc sa sn sc ba bn bc)) (d := some 31) rfl rfl (by kernel_rfl) (by kernel_rfl) (by kernel_rfl) (fun _ _ _ h => h) (Or.inl ⟨by rfl, ?hy13⟩) (by assumption) ?rest13
        case hy13 =>
          intro W hSw
          (try dsimp only at hSw)
          go_simp
        try simp only [Act.put, List.setIfInBounds_toArray, List.set_cons_zero, List.set_cons_succ]
        refine take_at (i := 15) (v := .pointer (some ⟨w.heap.size + 1, 3, none⟩)) (d := some 33) rfl rfl (by kernel_rfl) (by kernel_rfl) (by kernel_rfl) (fun _ _ _ h => h) (Or.inl ⟨by rfl, ?hy15⟩) (by assumption) ?rest15
        case hy15 =>
          intro W hSw
          (try dsimp only at hSw)
          go_simp
        try simp only [Act.put, List.setIfInBounds_toArray, List.set_cons_zero, List.set_cons_succ]
        refine take_at (i := 16) (v := .slice sa sn sc) (d := some 34) rfl rfl (by kernel_rfl) (by kernel_rfl) (by kernel_rfl) (fun _ _ _ h => h) (Or.inl ⟨by rfl, ?hy16⟩) (by assumption) ?rest16
        case hy16 =>
          intro W hSw
          (try dsimp only at hSw)
          go_simp
        try simp only [Act.put, List.setIfInBounds_toArray, List.set_cons_zero, List.set_cons_succ]
        refine take_at (i := 17) (v := .int .i64 (sn : Int)) (d := some 35) rfl rfl (by kernel_rfl) (by kernel_rfl) (by kernel_rfl) (fun _ _ _ h => h) (Or.inl ⟨by rfl, ?hy17⟩) (by assumption) ?rest17
        case hy17 =>
          intro W hSw
          (try dsimp only at hSw)
          go_simp
        try simp only [Act.put, List.setIfInBounds_toArray, List.set_cons_zero, List.set_cons_succ]
        refine take_at (i := 18) (v := .bool false) (d := some 36) rfl rfl (by kernel_rfl) (by kernel_rfl) (by kernel_rfl) (fun _ _ _ h => h) (Or.inl ⟨by rfl, ?hy18⟩) (by assumption) ?rest18
        case hy18 =>
          intro W hSw
          (try dsimp only at hSw)
          go_simp
        try simp only [Act.put, List.setIfInBounds_toArray, List.set_cons_zero, List.set_cons_succ]
        refine wpAnyH_ready (rs := [14]) (by kernel_rfl) (by simp) ?_
        refine AllReadyH.cons rfl (fun K hK => ?_) AllReadyH.nil
        go_simp
        refine (HC.out w12).mono ?_
        rintro e w13 ⟨rfl, hb13⟩
        have HB13 := Lib.hid (HB12.out.trans (hb13.mono HB12.out.size))
        have HT13 := Lib.hid (HS.out w13 HB13.out)
        have m130 := HT13.out.1
        have m131 := HT13.out.2.1
        have m132 := HT13.out.2.2.1
        have m133 := HT13.out.2.2.2
        clear hb13
        (try go_wp2_with fail)
        refine hK.out _ _ ⟨m130, m131, m132, m133⟩ (fun hHeld => ?_)
        clear hK K
        try simp only [Act.put, List.setIfInBounds_toArray, List.set_cons_zero, List.set_cons_succ]
        refine take_at (i := 19) (v := .bool false) (d := some 37) rfl rfl (by kernel_rfl) (by kernel_rfl) (by kernel_rfl) (fun _ _ _ h => h) (Or.inl ⟨by rfl, ?hy19⟩) (by assumption) ?rest19
        case hy19 =>
          intro W hSw
          (try dsimp only at hSw)
          go_simp
        try simp only [Act.put, List.setIfInBounds_toArray, List.set_cons_zero, List.set_cons_succ]
        refine take_at (i := 20) (v := undef) (d := some 38) rfl rfl (by kernel_rfl) (by kernel_rfl) (by kernel_rfl) (fun _ _ _ h => h) (Or.inr ⟨by rfl, rfl⟩) (by assumption) ?_
        try simp only [Act.put, List.setIfInBounds_toArray, List.set_cons_zero, List.set_cons_succ]
        refine take_at (i := 21) (v := undef) (d := some 39) rfl rfl (by kernel_rfl) (by kernel_rfl) (by kernel_rfl) (fun _ _ _ h => h) (Or.inr ⟨by rfl, rfl⟩) (by assumption) ?_
        try simp only [Act.put, List.setIfInBounds_toArray, List.set_cons_zero, List.set_cons_succ]
        refine take_at (i := 22) (v := undef) (d := some 40) rfl rfl (by kernel_rfl) (by kernel_rfl) (by kernel_rfl) (fun _ _ _ h => h) (Or.inr ⟨by rfl, rfl⟩) (by assumption) ?_
        try simp only [Act.put, List.setIfInBounds_toArray, List.set_cons_zero, List.set_cons_succ]
        refine take_at (i := 23) (v := undef) (d := some 41) rfl rfl (by kernel_rfl) (by kernel_rfl) (by kernel_rfl) (fun _ _ _ h => h) (Or.inr ⟨by rfl, rfl⟩) (by assumption) ?_
        try simp only [Act.put, List.setIfInBounds_toArray, List.set_cons_zero, List.set_cons_succ]
        refine take_at (i := 24) (v := .bool false) (d := some 42) rfl rfl (by kernel_rfl) (by kernel_rfl) (by kernel_rfl) (fun _ _ _ h => h) (Or.inl ⟨by rfl, ?hy24⟩) (by assumption) ?rest24
        case hy24 =>
          intro W hSw
          (try dsimp only at hSw)
          go_simp
        try simp only [Act.put, List.setIfInBounds_toArray, List.set_cons_zero, List.set_cons_succ]
        refine take_at (i := 25) (v := .bool true) (d := some 43) rfl rfl (by kernel_rfl) (by kernel_rfl) (by kernel_rfl) (fun _ _ _ h => h) (Or.inl ⟨by rfl, ?hy25⟩) (by assumption) ?rest25
        case hy25 =>
          intro W hSw
          (try dsimp only at hSw)
          go_simp
        try simp only [Act.put, List.setIfInBounds_toArray, List.set_cons_zero, List.set_cons_succ]
        refine take_at (i := 26) (v := .bool true) (d := some 44) rfl rfl (by kernel_rfl) (by kernel_rfl) (by kernel_rfl) (fun _ _ _ h => h) (Or.inl ⟨by rfl, ?hy26⟩) (by assumption) ?rest26
        case hy26 =>
          intro W hSw
          (try dsimp only at hSw)
          go_simp
        try simp only [Act.put, List.setIfInBounds_toArray, List.set_cons_zero, List.set_cons_succ]
        refine take_at (i := 27) (v := .bool true) (d := some 4) rfl rfl (by kernel_rfl) (by kernel_rfl) (by kernel_rfl) (fun _ _ _ h => h) (Or.inl ⟨by rfl, ?hy27⟩) (by assumption) ?rest27
        case hy27 =>
          intro W hSw
          (try dsimp only at hSw)
          go_simp
        try simp only [Act.put, List.setIfInBounds_toArray, List.set_cons_zero, List.set_cons_succ]
        refine wpAnyH_done (by kernel_rfl) ?_ _
        go_wp2_with fail
        go_ret
        exact ⟨rfl, HW.out _ HB13.out⟩

end Go.Proofs.YtcidbmldbikknaaGreatDoor

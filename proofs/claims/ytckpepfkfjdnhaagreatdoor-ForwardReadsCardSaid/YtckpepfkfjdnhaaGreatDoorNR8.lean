/-
  Walk: the law ForwardReads. Conditions: the arguments in memory, the laid table.
-/
import Derived.Test.YtckpepfkfjdnhaaGreatDoorNL0
import Derived.Test.YtckpepfkfjdnhaaGreatDoorNZ
import Derived.Test.YtckpepfkfjdnhaaGreatDoorNY
import Derived.Test.YtckpepfkfjdnhaaGreatDoorNRA
import Derived.Test.YtckpepfkfjdnhaaGreatDoorNRB
import Derived.Test.YtckpepfkfjdnhaaGreatDoorNRC
import Derived.Test.YtckpepfkfjdnhaaGreatDoorNJ17
namespace Go.Proofs.YtckpepfkfjdnhaaGreatDoor
open Go.RowKit Go.Sort

/-- A content that is small and valid. -/
def okC (x : Co) : Prop := fewC 30 x.l = true ∧ valP x.z x.org x.fmt x.len x.blk x.ap x.l = true

/-- A pair in a block of its own. -/
theorem put_pr8 (w : World) (k r : By) : ∃ W, (storePr ⟨w.heap.size, 0, none⟩ (.agg #[.string ⟨k.toArray⟩, .string ⟨r.toArray⟩])).run Tryz.prog (w.alloc (.cells #[.string ⟨#[]⟩, .string ⟨#[]⟩] 46)) = .ok () W ∧ W.heap[w.heap.size]? = some (.cells #[.string ⟨k.toArray⟩, .string ⟨r.toArray⟩] 46 (0, 0)) ∧ Below w.heap.size w W := by
  have hz := heap_alloc_new w (.cells #[.string ⟨#[]⟩, .string ⟨#[]⟩] 46)
  exact ⟨_, storePr_at (x := (k, r)) hz rfl, setRow_heap _ _ _ _ _ _ hz, below_setRow (box_below0 w _ 46) (Nat.le_refl _) _⟩
theorem method_get (f : Nat) (x : Value) (W : World) : (method (f + 1) 103 x "Get").run Tryz.prog W = .ok (283, x) W := by kernel_rfl
theorem method_next (f : Nat) (x : Value) (W : World) : (method (f + 1) 103 x "Next").run Tryz.prog W = .ok (284, x) W := by kernel_rfl

section
attribute [local go_sem ↓] loadCo_down storeCo_down loadPr_down storePr_down
set_option maxRecDepth 100000 in
set_option maxHeartbeats 8000000 in
theorem law_reads (w : World) (a : Option Addr) (cap : Nat) (cs : List Co) (id : Int) (key : By) (h : Cons w w.heap.size a cs) (hz : ∀ x ∈ cs, x.z.vol.length ≤ 9223372036854775807 ∧ x.z.own.length ≤ 9223372036854775807) (hc0 : Codes w) :
    Calls Tryz.prog 9 #[.slice a cs.length cap, .int .i64 id, .string ⟨key.toArray⟩] w fun e w' => e = .returned (.bool true) ∧ Below w.heap.size w w' := by
  have HS := Lib.hid h
  have HC := Lib.hid hc0
  have HZ := Lib.hid hz
  clear h hc0 hz
  have HAW := Lib.hid (fun (W : World) (hb : Below w.heap.size w W) => awake_any W (HC.out.below hb HC.out.pos))
  by_cases h4 : cs.length ≤ 4
  · have h4I : ¬ (4 : Int) < (cs.length : Int) := by omega
    by_cases h6 : key.length ≤ 60
    · have h6I : ¬ (60 : Int) < (key.length : Int) := by omega
      go_enter Tryz.func9, Tryz.ntmps9
      go_wp2_with fail
      go_loopw [43] (fun k wr => ∃ j : Nat, j ≤ cs.length ∧ k = .int .i64 j ∧ (∀ x ∈ cs.take j, okC x) ∧ Below w.heap.size w wr) (fun k _ => cs.length - (intOf k).toNat)
      case atStart => exact ⟨0, by omega, rfl, by simp, Below.refl _ _⟩
      case round =>
        obtain ⟨j, hj, rfl, hok, hb⟩ := hrel
        have HB := Lib.hid hb
        have HOK := Lib.hid hok
        clear hb hok
        by_cases hlt : j < cs.length
        · have jI : (j : Int) < (cs.length : Int) := by omega
          obtain ⟨b, off, rfl, hbb, hat⟩ := HS.out.get hlt
          have ld := (hat.below HB.out hbb).load
          have HPR := Lib.hid (HS.out.prs _ (List.getElem_mem hlt))
          have HZZ := Lib.hid (HZ.out _ (List.getElem_mem hlt))
          have HN := Lib.hid (fun (hp : okC cs[j]) => show ∀ x ∈ cs.take (j + 1), okC x by
            intro x hx
            rw [List.take_succ_eq_append_getElem hlt] at hx
            rcases List.mem_append.1 hx with hx | hx
            · exact HOK.out x hx
            · obtain rfl := List.mem_singleton.1 hx; exact hp)
          clear hat
          generalize cs[j] = x at ld HPR HZZ HN
          obtain ⟨z, org, fmt, len, blk, ap, xa, xc, L⟩ := x
          simp only at HPR HZZ
          obtain ⟨w1, hst1, hw1, hb1⟩ := put_co wr z org fmt len blk ap xa L.length xc
          have HB1 := Lib.hid (HB.out.trans (hb1.mono HB.out.size))
          have HW1 := Lib.hid hw1
          have lc1 := loadCo_at hw1 rfl
          clear hw1 hb1
          have HF := Lib.hid (few49_any (z := z) 30 w1 w.heap.size xa xc L org fmt len blk ap (HPR.out.1.below HB1.out) HB1.out.size (by omega))
          cases hf : fewC 30 L with
          | false =>
            rw [hf] at HF
            clear hf
            go_wp2_with fail
            refine HF.out.mono ?_
            rintro e w2 ⟨rfl, hb2⟩
            have HB2 := Lib.hid (HB1.out.trans (hb2.mono HB1.out.size))
            clear hb2 lc1 ld hst1
            go_wp2_with fail
            refine (HAW.out w2 HB2.out).mono ?_
            rintro e w3 ⟨rfl, hb3⟩
            have HB3 := Lib.hid (HB2.out.trans (hb3.mono HB2.out.size))
            clear hb3
            go_wp2_with fail
            go_ret
            exact ⟨rfl, HB3.out⟩
          | true =>
            rw [hf] at HF
            have HFF := Lib.hid hf
            have HFE := Lib.hid (fewC_iff.1 hf)
            clear hf
            have HV := Lib.hid (fun (W : World) (hb : Below w.heap.size w W) => r49valid_any (z := z) W w.heap.size xa xc L org fmt len blk ap (HPR.out.1.below hb) hb.size (by have := HFE.out.1; omega) HPR.out.2.1 HZZ.out.1 HZZ.out.2 (fun p hp => by have := HFE.out.2 p hp; omega))
            cases hv : valP z org fmt len blk ap L with
            | false =>
              rw [hv] at HV
              clear hv
              go_wp2_with fail
              refine HF.out.mono ?_
              rintro e w2 ⟨rfl, hb2⟩
              have HB2 := Lib.hid (HB1.out.trans (hb2.mono HB1.out.size))
              have lc2 := loadCo_at (heap_below hb2 (lt_of_block HW1.out) HW1.out) rfl
              clear hb2 lc1 ld hst1
              go_wp2_with fail
              refine (HV.out w2 HB2.out).mono ?_
              rintro e w3 ⟨rfl, hb3⟩
              have HB3 := Lib.hid (HB2.out.trans (hb3.mono HB2.out.size))
              clear hb3 lc2
              go_wp2_with fail
              refine (HAW.out w3 HB3.out).mono ?_
              rintro e w4 ⟨rfl, hb4⟩
              have HB4 := Lib.hid (HB3.out.trans (hb4.mono HB3.out.size))
              clear hb4
              go_wp2_with fail
              go_ret
              exact ⟨rfl, HB4.out⟩
            | true =>
              rw [hv] at HV
              have HNN := Lib.hid (HN.out ⟨HFF.out, hv⟩)
              clear hv HN
              go_wp2_with fail
              refine HF.out.mono ?_
              rintro e w2 ⟨rfl, hb2⟩
              have HB2 := Lib.hid (HB1.out.trans (hb2.mono HB1.out.size))
              have lc2 := loadCo_at (heap_below hb2 (lt_of_block HW1.out) HW1.out) rfl
              clear hb2 lc1 ld hst1
              go_wp2_with fail
              refine (HV.out w2 HB2.out).mono ?_
              rintro e w3 ⟨rfl, hb3⟩
              have HB3 := Lib.hid (HB2.out.trans (hb3.mono HB2.out.size))
              clear hb3 lc2
              go_wp2_with fail
              go_roundw
              case rel => exact ⟨j + 1, by omega, by go_num, HNN.out, HB3.out⟩
              case measure => simp [intOf]; omega
        · have hjl : j = cs.length := by omega
          have jI : ¬ (j : Int) < (cs.length : Int) := by omega
          have HO := Lib.hid (show ∀ x ∈ cs, okC x by have := HOK.out; rwa [hjl, List.take_length] at this)
          have HL := Lib.hid (show ∀ x ∈ cs, x.l.length ≤ 1000000 from fun x hx => by have := (fewC_iff.1 (HO.out x hx).1).1; omega)
          clear HOK
          have HRD := Lib.hid (reader_any wr w.heap.size a cap cs (HS.out.below HB.out) HB.out.size HL.out (by omega))
          go_wp2_with fail
          refine HRD.out.mono ?_
          rintro e w1 ⟨ra, rc, ys, rfl, hcy, hky, hb1⟩
          have HB1 := Lib.hid (HB.out.trans (hb1.mono HB.out.size))
          have HCY := Lib.hid hcy
          have HKY := Lib.hid hky
          have hyl : ys.length = cs.length := by have := congrArg List.length hky; simpa using this
          have HYL := Lib.hid (show ∀ x ∈ ys, x.l.length ≤ 1000000 from fun x hx => by
            have : x.kl ∈ cs.map Co.kl := by rw [← hky]; exact List.mem_map_of_mem hx
            obtain ⟨y, hy, e⟩ := List.mem_map.1 this
            have e2 : y.l = x.l := congrArg Prod.snd e
            have := HL.out y hy
            rw [e2] at this; exact this)
          have HYN := Lib.hid (show ys.length ≤ 1000000 by omega)
          have HMG := Lib.hid method_get
          have hmg := method_get
          have hmn := method_next
          clear hcy hky hb1 hyl
          have HPK := Lib.hid (fun i => pairs_kl (id := i) HKY.out)
          have HGT := Lib.hid (fget_any w1 w1.heap.size ra rc ys id key HCY.out (Nat.le_refl _) HYL.out HYN.out)
          rw [HPK.out id] at HGT
          have HGR := Lib.hid (fun (W : World) (hb : Below w.heap.size w W) => rget_any W w.heap.size a cap cs id key (HS.out.below hb) hb.size HL.out (by omega))
          have HNX := Lib.hid (fun (W : World) (hb : Below w1.heap.size w1 W) (i : Int) (k : By) => fnext_any W w1.heap.size ra rc ys i k (HCY.out.below hb) hb.size HYL.out HYN.out)
          have HNR := Lib.hid (fun (W : World) (hb : Below w.heap.size w W) => rnext_any W w.heap.size a cap cs id key (HS.out.below hb) hb.size HL.out (by omega))
          go_wp2_with fail
          refine HGT.out.mono ?_
          generalize getL key (pairsP id cs) = gr at HGR
          rintro e w2 ⟨rfl, hb2⟩
          have HB2 := Lib.hid (HB1.out.trans (hb2.mono HB1.out.size))
          have HR2 := Lib.hid hb2
          clear hb2
          go_wp2_with fail
          refine (HGR.out w2 HB2.out).mono ?_
          rintro e w3 ⟨rfl, hb3⟩
          have HB3 := Lib.hid (HB2.out.trans (hb3.mono HB2.out.size))
          have HR3 := Lib.hid (HR2.out.trans (hb3.mono HR2.out.size))
          clear hb3
          go_wp2_with fail
          refine (HNX.out w3 HR3.out id key).mono ?_
          rw [HPK.out id]
          generalize nextL key (pairsP id cs) = nr at HNR
          rintro e w4 ⟨rfl, hb4⟩
          have HB4 := Lib.hid (HB3.out.trans (hb4.mono HB3.out.size))
          have HR4 := Lib.hid (HR3.out.trans (hb4.mono HR3.out.size))
          clear hb4
          go_wp2_with fail
          refine (HNR.out w4 HB4.out).mono ?_
          rintro e w5 ⟨rfl, hb5⟩
          have HB5 := Lib.hid (HB4.out.trans (hb5.mono HB4.out.size))
          have HR5 := Lib.hid (HR4.out.trans (hb5.mono HR4.out.size))
          clear hb5
          have hmm := @run_makeMap Tryz.prog
          go_wp2_with fail
          clear hmm
          obtain ⟨W6, hW6⟩ : ∃ W6, W6 = w5.alloc (.map #[] 0) := ⟨_, rfl⟩
          have hm6 : amap W6 w5.heap.size (Value.int .i64) Value.bool I64 [] := by rw [hW6]; exact amap_new w5 _ _ _
          have hb6 : Below w5.heap.size w5 W6 := by rw [hW6]; exact (Below.refl _ _).alloc (Nat.le_refl _) _
          rw [← hW6]
          have HM6 := Lib.hid hm6
          have HB6 := Lib.hid hb6
          clear hm6 hb6 hW6
          go_loopw [117] (fun k wr => ∃ (j : Nat) (m : List (Int × Bool)), j ≤ cs.length ∧ k = .int .i64 j ∧ Below w5.heap.size w5 wr ∧ amap wr w5.heap.size (Value.int .i64) Value.bool I64 m ∧ ∀ i, (alook m i).getD false = decide (i ∈ (cs.take j).map (fun x => x.z.id))) (fun k _ => cs.length - (intOf k).toNat)
          case atStart => exact ⟨0, [], by omega, rfl, HB6.out, HM6.out, fun i => by simp [alook]⟩
          case round =>
            obtain ⟨j, m, hj, rfl, hb, hm, hin⟩ := hrel
            have HBj := Lib.hid hb
            have HMj := Lib.hid hm
            have HIN := Lib.hid hin
            have HBw := Lib.hid (HB5.out.trans (hb.mono HB5.out.size))
            have HBr := Lib.hid (HR5.out.trans (hb.mono HR5.out.size))
            clear hb hm hin
            by_cases hlt : j < cs.length
            · have jI : (j : Int) < (cs.length : Int) := by omega
              obtain ⟨b, off, rfl, hbb, hat⟩ := HS.out.get hlt
              have ld := (hat.below HBw.out hbb).load
              have HPR := Lib.hid (HS.out.prs _ (List.getElem_mem hlt))
              have HOC := Lib.hid (HO.out _ (List.getElem_mem hlt))
              have HTK := Lib.hid (show (cs.take (j + 1)).map (fun x => x.z.id) = (cs.take j).map (fun x => x.z.id) ++ [cs[j].z.id] by rw [List.take_succ_eq_append_getElem hlt, List.map_append]; rfl)
              have HPS := Lib.hid (fun (hns : cs[j].z.id ∉ (cs.take j).map (fun x => x.z.id)) => pairs_at (id := cs[j].z.id) hlt (fun x hx e => hns (by rw [← e]; exact List.mem_map_of_mem hx)) rfl)
              clear hat
              generalize cs[j] = x at ld HPR HOC HTK HPS
              obtain ⟨z, org, fmt, len, blk, ap, xa, xc, L⟩ := x
              simp only at HPR HOC HTK HPS
              obtain ⟨y1, hst1, hy1, hb1⟩ := put_co wr z org fmt len blk ap xa L.length xc
              have HY1 := Lib.hid hy1
              have HBy := Lib.hid hb1
              have e0 := cell_at (i := 0) (v := .int .i64 z.id) hy1 rfl
              have hid64 : I64 z.id := by
                have := val_desc HOC.out.2
                unfold descP at this
                simp only [Bool.and_eq_true, decide_eq_true_eq] at this
                exact i64_of (by omega) (by omega)
              have hm1 := amap_keep HMj.out (hb1.block _ (amap_lt HMj.out))
              have HM1 := Lib.hid hm1
              have lk := amap_lookup keyInt Tryz.underlying67 hm1 hid64 (show (zeroValue 4).run Tryz.prog y1 = .ok (.bool false) y1 by go_simp)
              have hlk : ((alook m z.id).map Value.bool).getD (.bool false) = .bool ((alook m z.id).getD false) := by cases alook m z.id <;> rfl
              rw [hlk, HIN.out z.id] at lk
              clear hy1 hb1 hm1 hlk
              by_cases hseen : z.id ∈ (cs.take j).map (fun x => x.z.id)
              · have HSE := Lib.hid hseen
                rw [decide_eq_true hseen] at lk
                clear hseen
                go_wp2_with fail
                go_roundw
                case rel => exact ⟨j + 1, m, by omega, by go_num, HBj.out.trans (HBy.out.mono HBj.out.size), HM1.out, fun i => by
                  rw [HIN.out i, HTK.out]
                  by_cases e : i = z.id
                  · subst e; simp only [List.mem_append, HSE.out, true_or, decide_true]
                  · simp [e]⟩
                case measure => simp [intOf]; omega
              · have HNS := Lib.hid hseen
                have HPQ := Lib.hid (HPS.out hseen)
                rw [decide_eq_false hseen] at lk
                obtain ⟨y2, hrun2, hm2, hg2, _⟩ := amap_update keyInt Tryz.underlying67 HM1.out hid64 true
                have hby2 : Below w5.heap.size w5 y2 := (HBj.out.trans (HBy.out.mono HBj.out.size)).grown hg2 (Nat.le_trans HBj.out.size HBy.out.size) (fun k hk => by simp at hk; omega)
                have HB2' := Lib.hid hby2
                have HM2 := Lib.hid hm2
                have hc2 := (hg2.block _ (lt_of_block HY1.out) (by simpa using amap_ne_cells HM1.out HY1.out)).trans HY1.out
                have HC2 := Lib.hid hc2
                have f22 := cell_at (i := 22) (v := .slice xa L.length xc) hc2 rfl
                have HRL := Lib.hid (val_rise HOC.out.2)
                have HKS := Lib.hid (key_some HOC.out.2)
                have hL30 : L.length ≤ 30 := (fewC_iff.1 HOC.out.1).1
                clear hseen hm2 hg2 hby2 hc2 HPS
                go_wp2_with fail
                clear hrun2 lk e0 hst1 f22
                have HNA := Lib.hid (fun (i : Nat) (hi : i ≤ L.length) => next_at HRL.out HKS.out hi)
                have HNZ := Lib.hid (fun (W : World) (hb : Below w1.heap.size w1 W) (k : By) => HNX.out W hb z.id k)
                rw [HPK.out z.id, HPQ.out] at HNZ
                have HBw2 := Lib.hid (HB5.out.trans (HB2'.out.mono HB5.out.size))
                have HBr2 := Lib.hid (HR5.out.trans (HB2'.out.mono HR5.out.size))
                go_loopw [23, 133] (fun kk ii wr => ∃ i : Nat, i ≤ L.length ∧ kk = .string ⟨(keyAt L i).toArray⟩ ∧ ii = .int .i64 i ∧ Below y2.heap.size y2 wr) (fun _ ii _ => L.length - (intOf ii).toNat)
                case atStart => exact ⟨0, by omega, rfl, rfl, Below.refl _ _⟩
                case round =>
                  obtain ⟨i, hi, rfl, rfl, hb⟩ := hrel
                  have HBi := Lib.hid hb
                  have HBwi := Lib.hid (HBw2.out.trans (hb.mono HBw2.out.size))
                  have HBri := Lib.hid (HBr2.out.trans (hb.mono HBr2.out.size))
                  have HCi := Lib.hid (heap_below hb (lt_of_block HC2.out) HC2.out)
                  have HNi := Lib.hid (HNA.out i hi)
                  clear hb
                  by_cases hil : i < L.length
                  · have iI : (i : Int) < (L.length : Int) := by omega
                    obtain ⟨b5, off5, rfl, hbb5, g1, g2⟩ := HPR.out.1.get hil
                    have lp := loadPr_mid ((HBwi.out.cell (p := ⟨b5, off5 + i * 2, none⟩) hbb5).trans g1) ((HBwi.out.cell (p := ⟨b5, off5 + i * 2 + 1, none⟩) hbb5).trans g2)
                    have HNi2 := Lib.hid (show nextL (keyAt L i) L = (L[i].1, L[i].2, 0) by rw [HNi.out, List.getElem?_eq_getElem hil])
                    have HKA := Lib.hid (keyAt_succ hil)
                    clear g1 g2
                    generalize L[i] = pr at lp HNi2 HKA
                    obtain ⟨pk, pv⟩ := pr
                    simp only at lp HNi2 HKA
                    obtain ⟨y3, hst3, hy3, hb3⟩ := put_pr8 wr pk pv
                    have HY3 := Lib.hid hy3
                    have HB3' := Lib.hid hb3
                    have c0 := cell_at (i := 0) (v := .int .i64 z.id) (heap_below hb3 (lt_of_block HCi.out) HCi.out) rfl
                    have HNy := Lib.hid (HNZ.out y3 (HBri.out.trans (hb3.mono HBri.out.size)) (keyAt L i))
                    rw [HNi2.out] at HNy
                    clear hy3 hb3 HNi
                    go_wp2_with fail
                    refine HNy.out.mono ?_
                    rintro e y4 ⟨rfl, hy4⟩
                    have HY4 := Lib.hid (heap_below hy4 (lt_of_block HY3.out) HY3.out)
                    have p0 := cell_at (i := 0) (v := .string ⟨pk.toArray⟩) HY4.out rfl
                    have p1 := cell_at (i := 1) (v := .string ⟨pv.toArray⟩) HY4.out rfl
                    have HBn := Lib.hid (HBi.out.trans ((HB3'.out.trans (hy4.mono HB3'.out.size)).mono HBi.out.size))
                    clear hy4 c0 lp hst3
                    go_wp2_with fail
                    go_roundw
                    case rel => exact ⟨i + 1, by omega, by rw [HKA.out], by go_num, HBn.out⟩
                    case measure => simp [intOf]; omega
                  · have iI : ¬ (i : Int) < (L.length : Int) := by omega
                    have HNi2 := Lib.hid (show nextL (keyAt L i) L = ([], [], 6) by rw [HNi.out, List.getElem?_eq_none (by omega)])
                    have c0 := cell_at (i := 0) (v := .int .i64 z.id) HCi.out rfl
                    have HNy := Lib.hid (HNZ.out wr HBri.out (keyAt L i))
                    rw [HNi2.out] at HNy
                    clear HNi
                    go_wp2_with fail
                    refine HNy.out.mono ?_
                    rintro e y4 ⟨rfl, hy4⟩
                    have HBn := Lib.hid (HBi.out.trans (hy4.mono HBi.out.size))
                    clear hy4 c0
                    go_wp2_with fail
                    go_roundw
                    case rel => exact ⟨j + 1, aset m z.id true, by omega, by go_num, HB2'.out.trans (HBn.out.mono HB2'.out.size), amap_keep HM2.out (HBn.out.block _ (amap_lt HM2.out)), fun i => by
                      rw [alook_aset, HTK.out]
                      by_cases e : z.id = i
                      · subst e; simp
                      · rw [if_neg e, HIN.out i]; simp [Ne.symm e]⟩
                    case measure => simp [intOf]; omega
            · have jI : ¬ (j : Int) < (cs.length : Int) := by omega
              go_wp2_with fail
              refine (HAW.out _ HBw.out).mono ?_
              rintro e y1 ⟨rfl, hy1⟩
              have HBf := Lib.hid (HBw.out.trans (hy1.mono HBw.out.size))
              clear hy1
              go_wp2_with fail
              go_ret
              exact ⟨rfl, HBf.out⟩
    · have h6I : (60 : Int) < (key.length : Int) := by omega
      go_enter Tryz.func9, Tryz.ntmps9
      go_wp2_with fail
      refine (HAW.out w (Below.refl _ _)).mono ?_
      rintro e w1 ⟨rfl, hb1⟩
      have HB1 := Lib.hid hb1
      clear hb1
      go_wp2_with fail
      go_ret
      exact ⟨rfl, HB1.out⟩
  · have h4I : (4 : Int) < (cs.length : Int) := by omega
    go_enter Tryz.func9, Tryz.ntmps9
    go_wp2_with fail
    refine (HAW.out w (Below.refl _ _)).mono ?_
    rintro e w1 ⟨rfl, hb1⟩
    have HB1 := Lib.hid hb1
    clear hb1
    go_wp2_with fail
    go_ret
    exact ⟨rfl, HB1.out⟩
end

end Go.Proofs.YtckpepfkfjdnhaaGreatDoor

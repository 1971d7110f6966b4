/-
  Walk: a data set is read, format 1. Conditions: valid sizes; at most 60 sectors.
-/
import Derived.Test.YthkpcalopmddpaaGreatDoorGQ
namespace Go.Proofs.YthkpcalopmddpaaGreatDoor
open Go.RowKit Go.Sort
attribute [local go_sem] ByteArray.mk_append_mk strOfNums_size ext_drop ext_take
attribute [local go_sem ↓] loadDs_down

private theorem mem_flat_le {d : By} {V : List By} (h : d ∈ V) : d.length ≤ V.flatten.length := (List.sublist_flatten_of_mem h).length_le

set_option maxRecDepth 100000 in
set_option maxHeartbeats 4000000 in
theorem read1_any (w : World) (B : Nat) (a : Option Addr) (cap : Nat) (l : List By) (len blk : Nat) (h : Strs w B a l) (hB : B ≤ w.heap.size) (hl : l.length ≤ 300) (hdv : dsV 0 1 len blk = true) (hc0 : Codes w) :
    Calls Tryz.prog 59 #[.agg (dsv 0 1 len blk), pgv a l.length cap] w fun e w' => RPost w (readV 1 len blk l) e w' := by
  have hv : varV len blk = true := by
    rcases ds_parts hdv with ⟨h0, h⟩ | ⟨h0, h⟩ | ⟨h0, h⟩
    all_goals first | exact h | (cases h0)
  have h1l : 1 ≤ len := by have h := hv; simp [varV] at h; omega
  have HUL := Lib.hid (show ∀ d L, varU len blk d = some L → L.length ≤ d.length from (fun d L hL => (varU_ok hL).1))
  have HUE := Lib.hid (show ∀ V R, eachU (varU len blk) V = some R → R.length ≤ V.flatten.length ∧ alwV 1 len R = true from fun V R hR => by
    have h := eachU_len (p := fun r => r.length ≤ len) (fun d L hL => varU_ok hL) hR
    refine ⟨h.1, ?_⟩
    rw [alw1 1 (by decide), List.all_eq_true]
    exact fun r hr => by simpa using h.2 r hr)
  have HV := Lib.hid hv
  have HDV := Lib.hid hdv
  clear hv hdv
  have HF := Lib.hid (fun W => format1_cell 0 len blk W)
  have hfd : ∀ (g : Nat) (W : World), (Instr.field 114 (.agg #[fnv 91, fnv 92, .func (.func 108) #[] #[.pointer (some ⟨g, 0, none⟩)], .int .i64 0, fnv 94]) 2).run Tryz.prog W = .ok (.func (.func 108) #[] #[.pointer (some ⟨g, 0, none⟩)]) W := fun _ _ => by kernel_rfl
  have hfc : ∀ (x y z t : Value) (W : World), (Instr.field 77 (.agg #[x, y, z, t]) 2).run Tryz.prog W = .ok z W := fun _ _ _ _ _ => by kernel_rfl
  obtain ⟨W1, hW1⟩ : ∃ W1, W1 = (w.alloc (.cells (dsv 0 1 len blk) 29)).alloc (.cells coz 77) := ⟨_, rfl⟩
  have hb1 : Below w.heap.size w W1 := by rw [hW1]; exact two_below w _ _ _ _
  have hr1 : W1.heap[w.heap.size + 1]? = some (.cells coz 77 (0, 0)) := by rw [hW1]; exact two_new w _ _ _ _
  have hd1 : W1.heap[w.heap.size]? = some (.cells (dsv 0 1 len blk) 29 (0, 0)) := by rw [hW1, halloc _ _ (by simp)]; exact heap_alloc_new w _
  have HH := Lib.hid (head_read W1 B a cap l (h.below (hb1.mono hB)))
  have HW1 := Lib.hid hW1
  have HB1 := Lib.hid hb1
  have HR1 := Lib.hid hr1
  have HD1 := Lib.hid hd1
  clear hW1 hb1 hr1 hd1
  have hT : readV 1 len blk l = if (headV l).2.2.2 ≠ 0 then .error (headV l).2.2.2 else
    if (gatP l (headV l).2.2.1 (l.length + 1) 1 []).2 ≠ 0 then .error (gatP l (headV l).2.2.1 (l.length + 1) 1 []).2 else
    readT 1 len blk (headV l).1 (headV l).2.1 (headV l).2.2.1 (gatP l (headV l).2.2.1 (l.length + 1) 1 []).1 := rfl
  generalize readV 1 len blk l = T at hT ⊢
  generalize headV l = hd at hT HH
  obtain ⟨ap, cnt, n, er⟩ := hd
  simp only at hT
  have HT := Lib.hid hT
  clear hT
  by_cases he : er = 0
  · subst he
    go_enter Tryz.func59, Tryz.ntmps59
    go_wp2_with fail
    rw [← HW1.out]
    refine HH.out.mono ?_
    rintro e w2 ⟨rfl, hb2⟩
    have HB2 := Lib.hid (HB1.out.trans (hb2.mono HB1.out.size))
    have HR2 := Lib.hid ((hb2.block (w.heap.size + 1) (lt_of_block HR1.out)).trans HR1.out)
    have HD2 := Lib.hid ((hb2.block w.heap.size (lt_of_block HD1.out)).trans HD1.out)
    have hT := HT.out
    rw [if_neg (by simp)] at hT
    have HS := Lib.hid (show RdSt w l n (gatP l n (l.length + 1) 1 []) w2 1 (l.length + 1) [] from ⟨HB2.out, HR2.out, rfl, by omega, Nat.le_refl _, rfl, by omega⟩)
    have HE := Lib.hid HD2.out
    clear hb2 HT HB2 HR2 HH HB1 HR1 HD1
    generalize gatP l n (l.length + 1) 1 [] = G at hT HS
    have HT := Lib.hid hT
    clear hT HD2
    go_wp2_with fail
    go_loopw [10, 11] (fun v k wr => ∃ (j f : Nat) (s : By), k = .int .i64 j ∧ v = .string ⟨s.toArray⟩ ∧ RdSt w l n G wr j f s ∧ wr.heap[w.heap.size]? = some (.cells (dsv 0 1 len blk) 29 (0, 0))) (fun _ k _ => l.length + 1 - (intOf k).toNat)
    case atStart => exact ⟨1, l.length + 1, [], rfl, rfl, HS.out, HE.out⟩
    case round =>
      clear HS HE
      obtain ⟨j, f, s, rfl, rfl, hS, hd0⟩ := hrel
      have HB := Lib.hid hS.bel
      have HR := Lib.hid hS.row
      have HD := Lib.hid hd0
      have hkl := hS.kl
      have hsz := hS.sz
      have hps := hS.pos
      obtain ⟨f', rfl⟩ : ∃ f', f = f' + 1 := ⟨f - 1, by have := hS.fuel; omega⟩
      have hfu := hS.fuel
      by_cases hlt : s.length < n
      · have hltI : (s.length : Int) < (n : Int) := by omega
        have HP := Lib.hid (page_any wr B a cap l j (h.below (hS.bel.mono hB)))
        have hG := hS.tot
        rw [gatP, if_pos hlt] at hG
        have hok := fun he => pageV_ok (l := l) (n := j) he
        clear hS hlt hd0
        by_cases hpe : (pageV l j).2 = 0
        · obtain ⟨hp1, hp2⟩ := hok hpe
          rw [if_pos hpe] at hG
          rw [hpe] at HP
          generalize (pageV l j).1 = p at hG HP hp1
          have hln : (s ++ p).length = s.length + p.length := List.length_append
          have HGG := Lib.hid hG
          clear hpe hok hG
          have n1 : ¬ 9223372036854775807 < s.length + p.length := by omega
          go_wp2_with fail
          refine HP.out.mono ?_
          rintro e w3 ⟨rfl, rfl⟩
          go_wp2_with fail
          go_roundw
          case rel => exact ⟨j + 1, f', s ++ p, by go_num, rfl, ⟨HB.out, HR.out, HGG.out, by omega, by omega, by omega, by omega⟩, HD.out⟩
          case measure => simp [intOf]; omega
        · rw [if_neg hpe] at hG
          generalize (pageV l j).1 = p at HP
          generalize (pageV l j).2 = er at hG HP hpe
          have HT2 := Lib.hid (show T = .error er by rw [HT.out, hG, if_pos hpe])
          have e1 : (er == 0) = false := by simp [hpe]
          have e2 : (er != 0) = true := by simp [hpe]
          have H1 := Lib.hid (show coz.all (·.oneCell') = true by simp [Value.oneCell'])
          clear hpe hok hG
          go_wp2_with fail
          refine HP.out.mono ?_
          rintro e w3 ⟨rfl, rfl⟩
          go_wp2_with (refine wpList_store_rowTo rfl _ _ _ rfl rfl (w.heap.size + 1) coz rfl rfl 77 coz HR.out (by rw [info_con]; rfl) rfl H1.out ?_)
          refine ret_con2 (cs := coz) rfl rfl rfl rfl rfl (setRow_heap _ _ _ _ _ _ HR.out) ?_
          exact RPost.no HT2.out (Below.setRow HB.out (by omega) _)
      · have hltI : (n : Int) ≤ (s.length : Int) := by omega
        have hltJ : ¬ (s.length : Int) < (n : Int) := by omega
        have hG := hS.tot
        rw [gatP, if_neg hlt] at hG
        subst hG
        have hT := HT.out
        rw [if_neg (by simp)] at hT
        replace hT : T = readT 1 len blk ap cnt n s := hT
        have hs60 : s.length ≤ 40000 := by omega
        have hn : n ≤ s.length := by omega
        clear hS hd0 HT hlt hkl hsz hps hfu
        have HT := Lib.hid hT
        clear hT
        have hzl : (s.drop n).length = s.length - n := List.length_drop
        have hmk := run_zeros (s.length - n) (by omega)
        have hcv : (convert 69 9 (.slice (some ⟨wr.heap.size, 0, none⟩) (s.length - n) (s.length - n))).run Tryz.prog (wr.alloc (.cells (zrow (s.length - n)) 5)) = .ok (.string ⟨(zeros (s.length - n)).toArray⟩) (wr.alloc (.cells (zrow (s.length - n)) 5)) := by
          have := conv_at (wr.alloc (.cells (zrow (s.length - n)) 5)) wr.heap.size (s.length - n) (List.replicate (s.length - n) 0) 5 (0, 0) (heap_alloc_new wr _) (by simp)
          rw [str_zeros] at this; exact this
        have H1 := Lib.hid (show coz.all (·.oneCell') = true by simp [Value.oneCell'])
        have hbz := HB.out.alloc HB.out.size (.cells (zrow (s.length - n)) 5)
        have hrz := (halloc _ (.cells (zrow (s.length - n)) 5) (lt_of_block HR.out)).trans HR.out
        have hdz := (halloc _ (.cells (zrow (s.length - n)) 5) (lt_of_block HD.out)).trans HD.out
        have HBZ := Lib.hid hbz
        have HRZ := Lib.hid hrz
        have HDZ := Lib.hid hdz
        clear hbz hrz hdz HD HR HB
        by_cases hz : s.drop n = zeros (s.length - n)
        rotate_left
        · have HT2 := Lib.hid (show T = .error 11 by rw [HT.out]; unfold readT; rw [if_pos (by rw [hzl]; exact hz)])
          clear HT
          generalize zeros (s.length - n) = zs at hz hcv
          have ez : (s.drop n == zs) = false := by simpa using hz
          clear hz
          go_wp2_with (refine wpList_store_rowTo rfl _ _ _ rfl rfl (w.heap.size + 1) coz rfl rfl 77 coz HRZ.out (by rw [info_con]; rfl) rfl H1.out ?_)
          refine ret_con2 (cs := coz) rfl rfl rfl rfl rfl (setRow_heap _ _ _ _ _ _ HRZ.out) ?_
          exact RPost.no HT2.out (Below.setRow HBZ.out (by omega) _)
        have hT : T = match cutP (s.take n) with
            | none => .error 11
            | some V => match unpV 1 len blk V with
              | none => .error 11
              | some R => if R.length = cnt ∧ packV 1 len blk R = V then .ok ⟨ap, R, V, s.take n⟩ else .error 11 := by
          rw [HT.out]; unfold readT; rw [if_neg (by rw [hzl]; exact fun h => h hz)]; try rfl
        have HC := Lib.hid (fun W => cut_any (s.take n) W (by rw [List.length_take]; omega))
        have htn : (s.take n).length ≤ 40000 := by rw [List.length_take]; omega
        have hcl := fun V (hV : cutP (s.take n) = some V) => cutF_len _ _ V hV
        generalize cutP (s.take n) = C at hT HC hcl
        clear HT
        generalize zeros (s.length - n) = zs at hz hcv
        subst hz
        cases C with
        | none =>
          have HT2 := Lib.hid (show T = .error 11 from hT)
          clear hT
          go_wp2_with fail
          obtain ⟨W5, hW5⟩ : ∃ W5, W5 = wr.alloc (.cells (zrow (s.length - n)) 5) := ⟨_, rfl⟩
          rw [← hW5] at HBZ HRZ HDZ ⊢
          clear hW5
          refine (HC.out W5).mono ?_
          rintro e w5 hp
          obtain rfl := hp.bad rfl
          have HB6 := Lib.hid (HBZ.out.trans (hp.bel.mono HBZ.out.size))
          have HR6 := Lib.hid ((hp.bel.block (w.heap.size + 1) (lt_of_block HRZ.out)).trans HRZ.out)
          clear hp
          go_wp2_with (refine wpList_store_rowTo rfl _ _ _ rfl rfl (w.heap.size + 1) coz rfl rfl 77 coz HR6.out (by rw [info_con]; rfl) rfl H1.out ?_)
          refine ret_con2 (cs := coz) rfl rfl rfl rfl rfl (setRow_heap _ _ _ _ _ _ HR6.out) ?_
          exact RPost.no HT2.out (Below.setRow HB6.out (by omega) _)
        | some V =>
          replace hT : T = match unpV 1 len blk V with
              | none => .error 11
              | some R => if R.length = cnt ∧ packV 1 len blk R = V then .ok ⟨ap, R, V, s.take n⟩ else .error 11 := hT
          have HT := Lib.hid hT
          clear hT
          go_wp2_with fail
          obtain ⟨W5, hW5⟩ : ∃ W5, W5 = wr.alloc (.cells (zrow (s.length - n)) 5) := ⟨_, rfl⟩
          rw [← hW5] at HBZ HRZ HDZ ⊢
          clear hW5
          refine (HC.out W5).mono ?_
          rintro e w5 hp
          obtain ⟨bv, rfl, hbv⟩ := hp.good V rfl
          have HB6 := Lib.hid (HBZ.out.trans (hp.bel.mono HBZ.out.size))
          have HR6 := Lib.hid ((hp.bel.block (w.heap.size + 1) (lt_of_block HRZ.out)).trans HRZ.out)
          have HD6 := Lib.hid ((hp.bel.block w.heap.size (lt_of_block HDZ.out)).trans HDZ.out)
          clear hp
          obtain ⟨hv1, hv2⟩ := hcl V rfl
          have hvf : V.flatten.length ≤ 40000 := by omega
          have hvl : V.length ≤ 40000 := by omega
          clear hcl hv1 hv2
          obtain ⟨ba, bc, rfl, hVS, hbc, hbc2⟩ := row_all hbv
          have HVS := Lib.hid hVS
          have HBV := Lib.hid hbv
          have hw5 := lt_of_block HRZ.out
          have hcod := hc0.below HB6.out hc0.pos
          have HCO := Lib.hid hcod
          clear hVS hbv hcod
          go_wp2_with fail
          have hd6d : w5.drew.heap[w.heap.size]? = some (.cells (dsv 0 1 len blk) 29 (0, 0)) := HD6.out
          have d3 := cell_at (i := 3) (v := .int .i64 len) hd6d rfl
          have d4 := cell_at (i := 4) (v := .int .i64 blk) hd6d rfl
          have dl := loadDs_at hd6d rfl
          clear hd6d
          go_region_held3 (fun w' => w'.cell? ⟨w.heap.size, 3, none⟩ = some (.int .i64 len) ∧ w'.cell? ⟨w.heap.size, 4, none⟩ = some (.int .i64 blk) ∧ (loadDs ⟨w.heap.size, 0, none⟩).run Tryz.prog w' = .ok (.agg (dsv 0 1 len blk)) w') (first | assumption | exact ⟨by assumption, by assumption, by assumption⟩)
           ((first
             | (go_at_call 71
                refine (HF.out _).mono ?_
                rintro e w6 ⟨g, rfl, hce, hb6⟩
                have HCE := Lib.hid hce
                have hb6 : Below w5.heap.size w5 w6 := below_drew1.trans hb6
                have g3 := (hb6.cell (p := ⟨w.heap.size, 3, none⟩) (lt_of_block HD6.out)).trans d3
                have g4 := (hb6.cell (p := ⟨w.heap.size, 4, none⟩) (lt_of_block HD6.out)).trans d4
                have gl := loadDs_at ((hb6.block w.heap.size (lt_of_block HD6.out)).trans HD6.out) rfl
                have HB7 := Lib.hid (HB6.out.trans (hb6.mono HB6.out.size))
                have HR7 := Lib.hid ((hb6.block (w.heap.size + 1) (lt_of_block HR6.out)).trans HR6.out)
                have HD7 := Lib.hid ((hb6.block w.heap.size (lt_of_block HD6.out)).trans HD6.out)
                have HVS7 := Lib.hid (HVS.out.below hb6)
                have HBV7 := Lib.hid (own_below HBV.out hb6)
                have HCO7 := Lib.hid (HCO.out.below hb6 HCO.out.pos)
                have hz7 : w5.heap.size ≤ w6.heap.size := hb6.size
                clear hb6 hce)
             | (go_at_call 108
                refine (each1_var g w5.heap.size ba bc V len blk (varU len blk) w6 HCE.out HVS7.out hz7 (by omega) (fun W d hd => vunpack_any d len blk W HV.out (by have := mem_flat_le hd; omega)) (fun d hd L hL => by have := HUL.out d L hL; have := mem_flat_le hd; omega)).mono ?_
                rintro e w7 hU
                have HB8 := Lib.hid (HB7.out.trans (hU.bel.mono HB7.out.size))
                have q3 := (hU.bel.cell (p := ⟨w.heap.size, 3, none⟩) (lt_of_block HD7.out)).trans g3
                have q4 := (hU.bel.cell (p := ⟨w.heap.size, 4, none⟩) (lt_of_block HD7.out)).trans g4
                have ql := loadDs_at ((hU.bel.block w.heap.size (lt_of_block HD7.out)).trans HD7.out) rfl
                have HR8 := Lib.hid ((hU.bel.block (w.heap.size + 1) (lt_of_block HR7.out)).trans HR7.out)
                have HD8 := Lib.hid ((hU.bel.block w.heap.size (lt_of_block HD7.out)).trans HD7.out)
                have HVS8 := Lib.hid ((HVS7.out.mono hz7).below hU.bel)
                have HBV8 := Lib.hid (own_below HBV7.out hU.bel)
                have HCO8 := Lib.hid (HCO7.out.below hU.bel HCO7.out.pos)
                have hz8 : w6.heap.size ≤ w7.heap.size := hU.bel.size
                have hz9 : w.heap.size ≤ w6.heap.size := HB7.out.size
                obtain ⟨rv, k, rfl, hk⟩ := hU.any
                clear hU)))
          clear q3 q4 g3 g4 gl d3 d4 dl HF hfd
          rcases hk with ⟨rfl, R, hR, hro⟩ | ⟨rfl, hR⟩
          rotate_left
          · have HT2 := Lib.hid (show T = .error 11 by rw [HT.out, show unpV 1 len blk V = eachU (varU len blk) V from by unfold unpV; simp, hR])
            clear HT hR ql
            go_wp2_with (refine wpList_store_rowTo rfl _ _ _ rfl rfl (w.heap.size + 1) coz rfl rfl 77 coz HR8.out (by rw [info_con]; rfl) rfl H1.out ?_)
            refine ret_con2 (cs := coz) rfl rfl rfl rfl rfl (setRow_heap _ _ _ _ _ _ HR8.out) ?_
            exact RPost.no HT2.out (Below.setRow HB8.out (by omega) _)
          obtain ⟨hR1, hR2⟩ := HUE.out V R hR
          have hRl : R.length ≤ 40000 := by omega
          obtain ⟨ra, rc, rfl, hRS, hrc, hrc2⟩ := row_all hro
          have HRS := Lib.hid hRS
          have HRO := Lib.hid hro
          have hw6 := lt_of_block HR7.out
          have HTR := Lib.hid (show T = if R.length = cnt ∧ packV 1 len blk R = V then .ok ⟨ap, R, V, s.take n⟩ else .error 11 by rw [HT.out, show unpV 1 len blk V = eachU (varU len blk) V from by unfold unpV; simp, hR])
          clear HT hR hRS hro
          by_cases hcnt : R.length = cnt
          rotate_left
          · have HT2 := Lib.hid (show T = .error 11 by rw [HTR.out, if_neg (fun h => hcnt h.1)])
            have e1 : ((R.length : Int) == (cnt : Int)) = false := by simp; omega
            have e2 : ((R.length : Int) != (cnt : Int)) = true := by simp; omega
            have e3 : (R.length == cnt) = false := by simp; omega
            have e4 : (R.length != cnt) = true := by simp; omega
            clear HTR hcnt ql
            go_wp2_with (refine wpList_store_rowTo rfl _ _ _ rfl rfl (w.heap.size + 1) coz rfl rfl 77 coz HR8.out (by rw [info_con]; rfl) rfl H1.out ?_)
            refine ret_con2 (cs := coz) rfl rfl rfl rfl rfl (setRow_heap _ _ _ _ _ _ HR8.out) ?_
            exact RPost.no HT2.out (Below.setRow HB8.out (by omega) _)
          have e1 : ((R.length : Int) == (cnt : Int)) = true := by simp; omega
          have e2 : ((R.length : Int) != (cnt : Int)) = false := by simp; omega
          have e3 : (R.length == cnt) = true := by simp; omega
          have e4 : (R.length != cnt) = false := by simp; omega
          have HP := Lib.hid (pack_many 1 len blk 0 w7 w7.heap.size ra rc R HRS.out (Nat.le_refl _) hRl HDV.out hR2 hrc hrc2 HCO8.out)
          have hpf := (packV_bm 1 len blk R HDV.out hR2 hRl).few
          have HCN := Lib.hid hcnt
          clear hcnt
          go_wp2_with fail
          refine HP.out.mono ?_
          rintro e w9 ⟨pv, rfl, hpo, hb9⟩
          obtain ⟨pa, pc, rfl, hPS, _, _⟩ := row_all hpo
          have HQ := Lib.hid (equals_any w9 w9.heap.size w7.heap.size pa ba pc bc (packV 1 len blk R) V hPS ((HVS8.out.mono hz8).below hb9) (by omega) (by omega))
          have HB9 := Lib.hid (HB8.out.trans (hb9.mono HB8.out.size))
          have HR9 := Lib.hid ((hb9.block (w.heap.size + 1) (lt_of_block HR8.out)).trans HR8.out)
          have HRO9 := Lib.hid (own_below HRO.out hb9)
          have HBV9 := Lib.hid (own_below HBV8.out hb9)
          clear hb9 hpo hPS ql
          by_cases heq : packV 1 len blk R = V
          · have HT2 := Lib.hid (show T = .ok ⟨ap, R, V, s.take n⟩ by rw [HTR.out, if_pos ⟨HCN.out, heq⟩])
            rw [show decide (packV 1 len blk R = V) = true by simp [heq]] at HQ
            clear heq HTR HP hpf
            generalize packV 1 len blk R = P at *
            go_wp2_with fail
            refine HQ.out.mono ?_
            rintro e w10 ⟨rfl, hb10⟩
            have HB10 := Lib.hid (HB9.out.trans (hb10.mono HB9.out.size))
            have HR10 := Lib.hid ((hb10.block (w.heap.size + 1) (lt_of_block HR9.out)).trans HR9.out)
            have HRO10 := Lib.hid (own_below HRO9.out hb10)
            have HBV10 := Lib.hid (own_below HBV9.out hb10)
            have H4 := Lib.hid (show (#[.int .i64 ap, .slice ra R.length rc, .slice ba V.length bc, .string ⟨(s.take n).toArray⟩] : Array Value).all (·.oneCell') = true by simp [Value.oneCell'])
            clear hb10
            go_wp2_with (refine wpList_store_rowTo rfl _ _ _ rfl rfl (w.heap.size + 1) #[.int .i64 ap, .slice ra R.length rc, .slice ba V.length bc, .string ⟨(s.take n).toArray⟩] rfl rfl 77 coz HR10.out (by rw [info_con]; rfl) rfl H4.out ?_)
            refine ret_con2 (cs := #[.int .i64 ap, .slice ra R.length rc, .slice ba V.length bc, .string ⟨(s.take n).toArray⟩]) rfl rfl rfl rfl rfl (setRow_heap _ _ _ _ _ _ HR10.out) ?_
            refine ⟨fun c hc => ?_, fun k hk => (by rw [HT2.out] at hk; cases hk), Below.setRow HB10.out (by omega) _⟩
            rw [HT2.out] at hc
            obtain rfl := Except.ok.inj hc
            exact ⟨_, _, rfl, own_mono (own_only HRO10.out (Only.setRow (Only.refl [w.heap.size + 1] w10) (Or.inl (by simp)) _) (fun k hk => by have := row_own HRO10.out hk; simp; omega)) (by omega), own_mono (own_only HBV10.out (Only.setRow (Only.refl [w.heap.size + 1] w10) (Or.inl (by simp)) _) (fun k hk => by have := row_own HBV10.out hk; simp; omega)) (by omega)⟩
          · have HT2 := Lib.hid (show T = .error 11 by rw [HTR.out, if_neg (fun h => heq h.2)])
            rw [show decide (packV 1 len blk R = V) = false by simp [heq]] at HQ
            clear heq HTR HP hpf
            generalize packV 1 len blk R = P at *
            go_wp2_with fail
            refine HQ.out.mono ?_
            rintro e w10 ⟨rfl, hb10⟩
            have HB10 := Lib.hid (HB9.out.trans (hb10.mono HB9.out.size))
            have HR10 := Lib.hid ((hb10.block (w.heap.size + 1) (lt_of_block HR9.out)).trans HR9.out)
            clear hb10
            go_wp2_with (refine wpList_store_rowTo rfl _ _ _ rfl rfl (w.heap.size + 1) coz rfl rfl 77 coz HR10.out (by rw [info_con]; rfl) rfl H1.out ?_)
            refine ret_con2 (cs := coz) rfl rfl rfl rfl rfl (setRow_heap _ _ _ _ _ _ HR10.out) ?_
            exact RPost.no HT2.out (Below.setRow HB10.out (by omega) _)
  · have HT2 := Lib.hid (show T = .error er by rw [HT.out, if_pos he])
    have e1 : (er == 0) = false := by simp [he]
    have e2 : (er != 0) = true := by simp [he]
    clear HT he
    go_enter Tryz.func59, Tryz.ntmps59
    go_wp2_with fail
    rw [← HW1.out]
    refine HH.out.mono ?_
    rintro e w2 ⟨rfl, hb2⟩
    have HB2 := Lib.hid (HB1.out.trans (hb2.mono HB1.out.size))
    have HR2 := Lib.hid ((hb2.block (w.heap.size + 1) (lt_of_block HR1.out)).trans HR1.out)
    have H1 := Lib.hid (show coz.all (·.oneCell') = true by simp [Value.oneCell'])
    clear hb2
    go_wp2_with (refine wpList_store_rowTo rfl _ _ _ rfl rfl (w.heap.size + 1) coz rfl rfl 77 coz HR2.out (by rw [info_con]; rfl) rfl H1.out ?_)
    refine ret_con2 (cs := coz) rfl rfl rfl rfl rfl (setRow_heap _ _ _ _ _ _ HR2.out) ?_
    exact RPost.no HT2.out (Below.setRow HB2.out (by omega) _)

end Go.Proofs.YthkpcalopmddpaaGreatDoor

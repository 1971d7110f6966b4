/-
  The walk of the law on reading once. No condition.
-/
import Derived.Test.YtbocefnfhnnbjaaO1
import Derived.WideLaws
namespace Go.Proofs.Ytbocefnfhnnbjaa
open Go.RowKit Go.Sort

set_option maxHeartbeats 8000000 in
set_option maxRecDepth 100000 in
theorem lawonce (a : Option Addr) (cap : Nat) (l : List ActR) (w : World) (h : Acts w w.heap.size a l) (hlen : l.length ≤ 9223372036854775807) :
    Calls Try.prog 6 #[.slice a l.length cap] w fun e w' => e = .returned (.bool true) ∧ Below w.heap.size w w' := by
  have hmm := @run_makeMap Try.prog
  cases hf : fewB l 40
  · have HF := Lib.hid hf
    clear hf
    go_enter Try.func6, Try.ntmps6
    go_wp2_with fail
    refine (few_any w a cap l 40 h (by omega) (by omega) hlen).mono ?_
    rintro e w1 ⟨rfl, hb1⟩
    rw [HF.out]
    go_wp2_with fail
    refine (awake_any w1).mono ?_
    rintro e w2 ⟨rfl, hb2⟩
    go_wp2_with fail
    go_ret
    exact ⟨rfl, hb1.trans (hb2.mono hb1.size)⟩
  · have HF := Lib.hid hf
    obtain ⟨hl40, hfew⟩ := few_acts hf
    have HW := Lib.hid hfew
    clear hf hfew
    go_enter Try.func6, Try.ntmps6
    go_wp2_with fail
    refine (few_any w a cap l 40 h (by omega) (by omega) hlen).mono ?_
    rintro e w1 ⟨rfl, hb1⟩
    rw [HF.out]
    go_wp2_with fail
    refine (new_so hb1).mono ?_
    rintro e w2 ⟨db, rb, cb, gb, rfl, hst, -⟩
    have hO : OSt w (((w2.alloc (.map #[] 0)).alloc (.map #[] 0)).alloc (.cells #[.int .i64 0] 3)) db rb cb gb w2.heap.size (w2.heap.size + 1) (w2.heap.size + 1 + 1) [] [] [] := by
      have s1 : (w2.alloc (.map #[] 0)).heap.size = w2.heap.size + 1 := by simp
      have s2 : ((w2.alloc (.map #[] 0)).alloc (.map #[] 0)).heap.size = w2.heap.size + 2 := by simp
      have b1 : Below w2.heap.size w2 (w2.alloc (.map #[] 0)) := (Below.refl _ _).alloc (Nat.le_refl _) _
      have b2 : Below (w2.heap.size + 1) (w2.alloc (.map #[] 0)) ((w2.alloc (.map #[] 0)).alloc (.map #[] 0)) := by
        have : Below (w2.alloc (.map #[] 0)).heap.size (w2.alloc (.map #[] 0)) ((w2.alloc (.map #[] 0)).alloc (.map #[] 0)) := (Below.refl _ _).alloc (Nat.le_refl _) _
        rwa [s1] at this
      have b3 : Below (w2.heap.size + 2) ((w2.alloc (.map #[] 0)).alloc (.map #[] 0)) (((w2.alloc (.map #[] 0)).alloc (.map #[] 0)).alloc (.cells #[.int .i64 0] 3)) := by
        have : Below ((w2.alloc (.map #[] 0)).alloc (.map #[] 0)).heap.size ((w2.alloc (.map #[] 0)).alloc (.map #[] 0)) (((w2.alloc (.map #[] 0)).alloc (.map #[] 0)).alloc (.cells #[.int .i64 0] 3)) := (Below.refl _ _).alloc (Nat.le_refl _) _
        rwa [s2] at this
      have v1 : amap (w2.alloc (.map #[] 0)) w2.heap.size kInt vPtr I64 ([] : List (Int × Nat)) := amap_new w2 _ _ _
      have v2 : amap ((w2.alloc (.map #[] 0)).alloc (.map #[] 0)) (w2.heap.size + 1) kReg vTruth okR ([] : List ((Int × Int × Int) × Bool)) := by
        have := amap_new (w2.alloc (.map #[] 0)) kReg vTruth okR
        rwa [s1] at this
      have v3 := heap_alloc_new ((w2.alloc (.map #[] 0)).alloc (.map #[] 0)) (.cells #[.int .i64 0] 3)
      rw [s2] at v3
      have bb : Below w2.heap.size w2 (((w2.alloc (.map #[] 0)).alloc (.map #[] 0)).alloc (.cells #[.int .i64 0] 3)) := b1.trans ((b2.mono (by omega)).trans (b3.mono (by omega)))
      have hl := hst.lt
      have hw := hst.bel.size
      have e1 := hst.b1
      have e2 := hst.b2
      have e3 := hst.b3
      have e4 := hst.b4
      have hn : ∀ k, w2.heap.size ≤ k → k ∉ [db, rb, cb, gb] := fun k hk hm => by have := hl k hm; omega
      refine ⟨hst.dir.below bb, (hst.below bb).bel, ⟨amap_keep v1 ((b3.block _ (by omega)).trans (b2.block _ (by omega))), by simp, by simp, by simp, fun i hi => ?_, by simp⟩, amap_keep v2 (b3.block _ (by omega)), v3, fun i hi => ?_, ⟨hn _ (by omega), by omega, by omega⟩, ⟨hn _ (by omega), by omega⟩, hn _ (by omega), OnceI.nil⟩
      · have hs : (((w2.alloc (.map #[] 0)).alloc (.map #[] 0)).alloc (.cells #[.int .i64 0] 3)).heap.size = w2.heap.size + 3 := by simp
        rw [hs]
        simp only [List.mem_cons, List.not_mem_nil, or_false] at hi hl
        have h1 := hl db (by simp)
        have h2 := hl rb (by simp)
        have h3 := hl cb (by simp)
        have h4 := hl gb (by simp)
        omega
      · simp only [List.mem_cons, List.not_mem_nil, or_false] at hi
        omega
    have HOS := Lib.hid hO
    clear hO hst
    go_wp2_with fail
    have hvs : w2.heap.size + 1 = w2.heap.size + 1 := rfl
    generalize ((w2.alloc (.map #[] 0)).alloc (.map #[] 0)).alloc (.cells #[.int .i64 0] 3) = w3 at HOS ⊢
    generalize hsb : w2.heap.size + 1 = sb at HOS ⊢
    generalize hnb : sb + 1 = nb at HOS ⊢
    generalize w2.heap.size = vb at HOS ⊢
    clear hvs hsb hnb
    go_loopw [27] (fun k wr => ∃ (n : Nat) (G : List ((Int × Int × Int) × Unit)) (SM : List ((Int × Int × Int) × Bool)) (PL : List PR), n ≤ l.length ∧ k = .int .i64 n ∧ SM.length ≤ n ∧ OSt w wr db rb cb gb vb sb nb G SM PL) (fun k _ => l.length - (intOf k).toNat)
    case atStart => exact ⟨0, [], [], [], by omega, rfl, by simp, HOS.out⟩
    case round =>
      clear HOS
      obtain ⟨n, G, SM, PL, hn, rfl, hSn, hO⟩ := hrel
      have hr := h.below hO.bel
      by_cases hlt : n < l.length
      · have hx := hr.ok _ (List.getElem_mem hlt)
        have hxf := HW.out _ (List.getElem_mem hlt)
        obtain ⟨bb, off, rfl, hbb, c0, c1, c2, c3, c4⟩ := hr.get hlt
        generalize l[n] = x at hx hxf c0 c1 c2 c3 c4
        have hOA := hO.below ((Below.refl _ _).alloc (Nat.le_refl _) (.cells #[.int .i64 x.kind, .int .i64 x.sys, .int .i64 x.id, .int .i64 x.pg, .slice x.pa x.pages.length x.pcap] 33))
        have hblk := heap_alloc_new wr (.cells #[.int .i64 x.kind, .int .i64 x.sys, .int .i64 x.id, .int .i64 x.pg, .slice x.pa x.pages.length x.pcap] 33)
        have xs := hx.sys
        have xi := hx.id
        have xp := hx.pg
        have hO0 := hO
        clear hO hxf hx
        by_cases hpg : 1000 < x.pg
        · go_wp2_with fail
          go_roundw
          case rel => exact ⟨n + 1, _, _, _, by omega, by go_num, by omega, hOA⟩
          case measure => simp [intOf]; omega
        · have HPG := Lib.hid hpg
          have hpg2 : x.pg ≤ 1000 := by omega
          clear hpg
          have hX0 := Lib.hid hO0.lap.low
          have hP0 : Hid (∀ p ∈ PL, ∀ i ∈ p.fp, i < wr.heap.size) := fun p hp => hO0.lap.lt hp
          have L := amap_lookup_ok (P := Try.prog) (T := 52) (E := 53) keyInt Try.underlying52 hOA.lap.map (k := x.sys) xs (zero53 _)
          have HSZ0 := Lib.hid (show (wr.alloc (.cells #[.int .i64 x.kind, .int .i64 x.sys, .int .i64 x.id, .int .i64 x.pg, .slice x.pa x.pages.length x.pcap] 33)).heap.size = wr.heap.size + 1 by simp)
          have HBK := Lib.hid hblk
          have d1 := cell_at (i := 1) (v := .int .i64 x.sys) hblk rfl
          have d2 := cell_at (i := 2) (v := .int .i64 x.id) hblk rfl
          have d3 := cell_at (i := 3) (v := .int .i64 x.pg) hblk rfl
          have HL := Lib.hid L
          clear hblk hO0 d1 d2 d3 L
          go_upto_region 13 with (fail)
          have d1 := cell_at (i := 1) (v := .int .i64 x.sys) HBK.out rfl
          have d2 := cell_at (i := 2) (v := .int .i64 x.id) HBK.out rfl
          have d3 := cell_at (i := 3) (v := .int .i64 x.pg) HBK.out rfl
          have L := HL.out
          clear HL c0 c1 c2 c3 c4
          generalize wr.alloc (.cells #[.int .i64 x.kind, .int .i64 x.sys, .int .i64 x.id, .int .i64 x.pg, .slice x.pa x.pages.length x.pcap] 33) = wq at hOA HBK HSZ0 d1 d2 d3 L ⊢
          generalize wr.heap.size = xb at HBK hX0 hP0 HSZ0 d1 d2 d3 ⊢
          cases hl : alook (PL.map fun p => (p.sys, p.pb)) x.sys with
          | some pb0 =>
            obtain ⟨L1, p, L2, rfl, hs, hpb, hoth⟩ := hOA.lap.find hl
            obtain ⟨s0, base, pb, mb, oa, oc, hh, mm, M, O⟩ := p
            simp only at hs hpb
            subst hpb
            rw [hl] at L
            simp only [Option.map_some, Option.getD_some, Option.isSome_some, vPtr, kInt] at L
            have HQ := Lib.hid hOA
            rw [hs] at HQ
            have HOTH := Lib.hid hoth
            have hxf : xb ∉ fpO pb mb oa := fun e => by have := hP0.out _ (List.mem_append.2 (Or.inr List.mem_cons_self)) xb e; omega
            have HSZ := HSZ0
            clear hOA hoth hl
            go_wp2_with fail
            clear L d1 d2 d3
            have HRD := Lib.hid (HQ.out.reader x.id)
            have hpO : O.length ≤ 9000 := by
              have := HQ.out.once.len (p := ⟨x.sys, base, pb, mb, oa, oc, hh, mm, M, O⟩) (List.mem_append.2 (Or.inr List.mem_cons_self))
              simp only at this
              omega
            refine HRD.out.mono ?_
            rintro e w5 ⟨rfl, hR5, hb5, hQ5⟩
            have hbk5 := heap_below hb5 (lt_of_block HBK.out) HBK.out
            have f1 := cell_at (i := 1) (v := .int .i64 x.sys) hbk5 rfl
            have f2 := cell_at (i := 2) (v := .int .i64 x.id) hbk5 rfl
            have f3 := cell_at (i := 3) (v := .int .i64 x.pg) hbk5 rfl
            have HPG5 := Lib.hid (rdPage_any w5 _ base pb mb oa oc 40 hh mm M O db rb cb gb 0 [] [] G _ nb 3 [] SM.length x.sys x.id x.pg hR5 xs xi xp hpO)
            have HQ5 := Lib.hid hQ5
            have HBK5 := Lib.hid hbk5
            generalize (wq.alloc (.map #[] 0)).heap.size = rb0 at HPG5 ⊢
            have hni : ∀ W, (binOp .eql 59 (rdV rb0) .nilIface).run Try.prog W = .ok (.bool false) W := fun _ => rfl
            unfold rdV at hni ⊢
            clear hR5 hb5 hQ5 hbk5
            go_wp2_with fail
            refine HPG5.out.mono ?_
            rintro e w6 ⟨⟨d, n6, rfl⟩, oa6, oc6, h6, m6, M6, O6, G6, r6, hR6, ho6, hn6, hP6⟩
            obtain ⟨rfl, rfl, hm6, hrd6, hall⟩ := OSt.read HQ5.out HOTH.out (by omega) (by omega) hR6 ho6 hn6 hP6
            have hbk6 := ho6.heap HBK5.out (fun e => by
              rcases List.mem_append.1 e with e | e
              · exact hxf e
              · have := hX0.out xb (by simp at e ⊢; omega)
                omega)
            have g1 := cell_at (i := 1) (v := .int .i64 x.sys) hbk6 rfl
            have g2 := cell_at (i := 2) (v := .int .i64 x.id) hbk6 rfl
            have g3 := cell_at (i := 3) (v := .int .i64 x.pg) hbk6 rfl
            obtain ⟨w7, hrun, hm7, hg7, -⟩ := amap_update (P := Try.prog) (E := 4) keyTri Try.underlying51 hm6 (k := (x.sys, x.id, x.pg)) ⟨xs, xi, xp⟩ true
            simp only [kReg, vTruth] at hrun
            have hO7 := hall w7 hm7 hg7
            obtain ⟨es, cl, hlm, hsz⟩ := amap_len hO7.seen
            have cr := cell_at (i := 0) (v := .int .i64 (aset SM (x.sys, x.id, x.pg) true).length) hO7.reads rfl
            rw [← hsz] at cr
            have hln : (Builtin.len_ #[51] 3 #[.map (some sb)]).run Try.prog w7 = .ok (.int .i64 (es.size : Int)) w7 := run_len_map (P := Try.prog) w7 51 3 sb es cl (by kernel_rfl) hlm
            have HL7 := Lib.hid (aset_length SM (x.sys, x.id, x.pg) true)
            have HO7 := Lib.hid hO7
            clear hR6 ho6 hn6 hP6 hm6 hrd6 hall hbk6 hm7 hg7 hO7 hsz f1 f2 f3 hni
            go_wp2_with fail
            go_roundw
            case rel => exact ⟨n + 1, _, _, _, by omega, by go_num, by have := HL7.out; omega, HO7.out⟩
            case measure => simp [intOf]; omega
          | none =>
            have hfr := hOA.lap.fresh hl
            rw [hl] at L
            simp only [Option.map_none, Option.getD_none, Option.isSome_none, kInt] at L
            have HOA := Lib.hid hOA
            have HFR := Lib.hid hfr
            clear hOA hfr hl
            go_wp2_with fail
            refine (poolNew_any wq 40 (by omega) (by omega)).mono ?_
            rintro e wn ⟨pb, mb, rfl, hpool, hbn, hpb, hmb⟩
            obtain ⟨wu, hrunu, hmu, hgu, -⟩ := amap_update (P := Try.prog) (E := 53) keyInt Try.underlying52 (HOA.out.below hbn).lap.map (k := x.sys) xs pb
            simp only [kInt, vPtr] at hrunu
            have hbkn := heap_below hbn (lt_of_block HBK.out) HBK.out
            have HBKn := HBK
            clear HBK
            have HBK := Lib.hid ((hgu.block _ (lt_of_block hbkn) (fun e => by
              have := hX0.out vb (by simp)
              obtain rfl := Option.some.inj e
              omega)).trans hbkn)
            have hxw := lt_of_block HBKn.out
            obtain ⟨base, oa, oc, hh, mm, M, O, HQ, hxf⟩ : ∃ (base : Nat) (oa : Option Addr) (oc : Nat) (hh mm : Int) (M : List (Pl × Ct)) (O : List Pl), Hid (OSt w wu db rb cb gb vb sb nb G SM (PL ++ ⟨x.sys, base, pb, mb, oa, oc, hh, mm, M, O⟩ :: [])) ∧ xb ∉ fpO pb mb oa :=
              ⟨pb + 1, none, 0, 0, 0, [], [], Lib.hid (HOA.out.newPool HFR.out hpool hbn hpb hmb hmu hgu), fun e => by
                rw [fpO_mem] at e
                rcases e with e | e | ⟨q, hq, _⟩
                · omega
                · omega
                · simp at hq⟩
            have HOTH : Hid (∀ q ∈ PL ++ [], q.sys ≠ x.sys) := fun q hq => HFR.out q (by simpa using hq)
            have m1 := cell_at (i := 1) (v := .int .i64 x.sys) hbkn rfl
            have k1 := cell_at (i := 1) (v := .int .i64 x.sys) HBK.out rfl
            have k2 := cell_at (i := 2) (v := .int .i64 x.id) HBK.out rfl
            have k3 := cell_at (i := 3) (v := .int .i64 x.pg) HBK.out rfl
            clear hpool hbn hmu hgu hbkn HBKn HOA HFR L d1 d2 d3 HSZ0 hP0 hpb hmb hxw
            clear wq
            obtain ⟨wq, hwq⟩ : ∃ wq, wq = wu := ⟨_, rfl⟩
            subst hwq
            go_wp2_with fail
            clear hrunu m1 k1 k2 k3
            have HRD := Lib.hid (HQ.out.reader x.id)
            have hpO : O.length ≤ 9000 := by
              have := HQ.out.once.len (p := ⟨x.sys, base, pb, mb, oa, oc, hh, mm, M, O⟩) (List.mem_append.2 (Or.inr List.mem_cons_self))
              simp only at this
              omega
            refine HRD.out.mono ?_
            rintro e w5 ⟨rfl, hR5, hb5, hQ5⟩
            have hbk5 := heap_below hb5 (lt_of_block HBK.out) HBK.out
            have f1 := cell_at (i := 1) (v := .int .i64 x.sys) hbk5 rfl
            have f2 := cell_at (i := 2) (v := .int .i64 x.id) hbk5 rfl
            have f3 := cell_at (i := 3) (v := .int .i64 x.pg) hbk5 rfl
            have HPG5 := Lib.hid (rdPage_any w5 _ base pb mb oa oc 40 hh mm M O db rb cb gb 0 [] [] G _ nb 3 [] SM.length x.sys x.id x.pg hR5 xs xi xp hpO)
            have HQ5 := Lib.hid hQ5
            have HBK5 := Lib.hid hbk5
            generalize (wq.alloc (.map #[] 0)).heap.size = rb0 at HPG5 ⊢
            have hni : ∀ W, (binOp .eql 59 (rdV rb0) .nilIface).run Try.prog W = .ok (.bool false) W := fun _ => rfl
            unfold rdV at hni ⊢
            clear hR5 hb5 hQ5 hbk5
            go_wp2_with fail
            refine HPG5.out.mono ?_
            rintro e w6 ⟨⟨d, n6, rfl⟩, oa6, oc6, h6, m6, M6, O6, G6, r6, hR6, ho6, hn6, hP6⟩
            obtain ⟨rfl, rfl, hm6, hrd6, hall⟩ := OSt.read HQ5.out HOTH.out (by omega) (by omega) hR6 ho6 hn6 hP6
            have hbk6 := ho6.heap HBK5.out (fun e => by
              rcases List.mem_append.1 e with e | e
              · exact hxf e
              · have := hX0.out xb (by simp at e ⊢; omega)
                omega)
            have g1 := cell_at (i := 1) (v := .int .i64 x.sys) hbk6 rfl
            have g2 := cell_at (i := 2) (v := .int .i64 x.id) hbk6 rfl
            have g3 := cell_at (i := 3) (v := .int .i64 x.pg) hbk6 rfl
            obtain ⟨w7, hrun, hm7, hg7, -⟩ := amap_update (P := Try.prog) (E := 4) keyTri Try.underlying51 hm6 (k := (x.sys, x.id, x.pg)) ⟨xs, xi, xp⟩ true
            simp only [kReg, vTruth] at hrun
            have hO7 := hall w7 hm7 hg7
            obtain ⟨es, cl, hlm, hsz⟩ := amap_len hO7.seen
            have cr := cell_at (i := 0) (v := .int .i64 (aset SM (x.sys, x.id, x.pg) true).length) hO7.reads rfl
            rw [← hsz] at cr
            have hln : (Builtin.len_ #[51] 3 #[.map (some sb)]).run Try.prog w7 = .ok (.int .i64 (es.size : Int)) w7 := run_len_map (P := Try.prog) w7 51 3 sb es cl (by kernel_rfl) hlm
            have HL7 := Lib.hid (aset_length SM (x.sys, x.id, x.pg) true)
            have HO7 := Lib.hid hO7
            clear hR6 ho6 hn6 hP6 hm6 hrd6 hall hbk6 hm7 hg7 hO7 hsz f1 f2 f3 hni
            go_wp2_with fail
            go_roundw
            case rel => exact ⟨n + 1, _, _, _, by omega, by go_num, by have := HL7.out; omega, HO7.out⟩
            case measure => simp [intOf]; omega
      · go_wp2_with fail
        refine (awake_any wr).mono ?_
        rintro e w2 ⟨rfl, hb2⟩
        go_wp2_with fail
        go_ret
        exact ⟨rfl, hO.bel.trans (hb2.mono hO.bel.size)⟩

end Go.Proofs.Ytbocefnfhnnbjaa

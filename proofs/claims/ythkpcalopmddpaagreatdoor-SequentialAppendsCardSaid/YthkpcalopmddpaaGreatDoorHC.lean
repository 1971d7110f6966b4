/-
  Walk: the reference joins segments to records. No condition but sizes.
  Walk: the reference unpacks blocks of segments. Condition: valid sizes.
  Walks: the reference unpacks blocks of formats 0, 1 and 2. Condition: valid sizes.
-/
import Derived.Test.YthkpcalopmddpaaGreatDoorGN
import Derived.Test.YthkpcalopmddpaaGreatDoorU7
import Derived.Test.YthkpcalopmddpaaGreatDoorGH
import Derived.Test.YthkpcalopmddpaaGreatDoorT44A
import Derived.Test.YthkpcalopmddpaaGreatDoorHB
import Derived.Test.YthkpcalopmddpaaGreatDoorGI
import Derived.Test.YthkpcalopmddpaaGreatDoorGQ
namespace Go.Proofs.YthkpcalopmddpaaGreatDoor

section
open Go.RowKit Go.Sort
attribute [local go_sem] ByteArray.mk_append_mk strOfNums_size ext_drop ext_take

set_option maxRecDepth 100000 in
set_option maxHeartbeats 4000000 in
theorem rjoin_seg (ad : Option Addr) (cap B : Nat) (l : List Seg) (len : Nat) (w : World) (hN : SegsAt w B ad l) (hB : B ≤ w.heap.size) (hl : l.length ≤ 1000000) (hlen : len ≤ 1000) (hk : ∀ s ∈ l, s.2.2.length ≤ 1000) :
    Calls Tryz.prog 100 #[.int .i64 len, .slice ad l.length cap] w fun e w' => UPost w (joinP len false [] l) e w' := by
  obtain ⟨i0, hi0, hz0, hz1, hz2⟩ := info_parts info9
  have HS := Lib.hid (show JoSt w len l (joinP len false [] l) (w.alloc (.cells #[] 9)) 0 false [] (.slice (some ⟨w.heap.size, 0, none⟩) 0 0) from ⟨(Below.refl _ _).alloc (Nat.le_refl _) _, lit0 9 rfl (Nat.le_refl _), by rw [List.drop_zero], Nat.le_refl _, fun h => (by cases h), fun x hx => (by cases hx)⟩)
  generalize joinP len false [] l = T at HS ⊢
  have HK := Lib.hid hk
  have HN := Lib.hid hN
  clear hk hN
  go_enter Tryz.func100, Tryz.ntmps100
  go_wp2_with fail
  go_loopw [6, 7, 8] (fun v o k wr => ∃ (j : Nat) (op : Bool) (out : List By), j ≤ l.length ∧ k = .int .i64 j ∧ o = .bool op ∧ JoSt w len l T wr j op out v) (fun _ _ k _ => l.length - (intOf k).toNat)
  case atStart => exact ⟨0, false, [], by omega, rfl, rfl, HS.out⟩
  case round =>
    clear HS
    obtain ⟨j, op, out, hj, rfl, rfl, hS⟩ := hrel
    have HB := Lib.hid hS.bel
    have HO := Lib.hid hS.own
    have hfew := hS.few
    by_cases hlt : j < l.length
    · have hsl := HK.out l[j] (List.getElem_mem hlt)
      obtain ⟨f1, f2, f3⟩ := flatS_get l j hlt
      obtain ⟨b, rfl, hpb, hp⟩ := HN.out.src (fun h => by rw [h] at hlt; exact absurd hlt (by simp))
      have hbB : b < w.heap.size := Nat.lt_of_lt_of_le hpb hB
      have p0 := hp _ _ f1
      have p1 := hp _ _ f2
      have p2 := hp _ _ f3
      have hT := hS.tot
      rw [List.drop_eq_getElem_cons hlt, joinP] at hT
      have HNE := Lib.hid hS.ne
      have HSM := Lib.hid hS.sml
      clear hS f1 f2 f3 hp
      generalize l[j] = x at hT p0 p1 p2 hsl
      obtain ⟨bf, af, d⟩ := x
      replace hsl : d.length ≤ 1000 := hsl
      replace p0 : w.cell? ⟨b, j * 3, none⟩ = some (.bool bf) := p0
      replace p1 : w.cell? ⟨b, j * 3 + 1, none⟩ = some (.bool af) := p1
      replace p2 : w.cell? ⟨b, j * 3 + 2, none⟩ = some (.string ⟨d.toArray⟩) := p2
      have P1 := Lib.hid p1
      have c0 := (HB.out.cell (p := ⟨b, j * 3, none⟩) hbB).trans p0
      have c2 := (HB.out.cell (p := ⟨b, j * 3 + 2, none⟩) hbB).trans p2
      clear p0 p1 p2
      simp only at hT
      by_cases hbo : bf = op
      rotate_left
      · have HT := Lib.hid (show T = none by rw [hT, if_neg (fun h => hbo h.1)])
        clear hT
        cases bf <;> cases op <;> first | exact absurd rfl hbo | skip
        all_goals
          go_wp2_with fail
          go_ret2
          exact UPost.no HT.out HB.out
      subst hbo
      cases bf with
      | false =>
        have hj1 : jstep false out d = out ++ [d] := rfl
        rw [hj1, last_snoc] at hT
        replace hT : T = if d.length ≤ len then joinP len af (out ++ [d]) (l.drop (j + 1)) else none := by
          rw [hT]; simp
        have ho := HO.out
        obtain ⟨oa, oc, rfl, _, _⟩ := newsAt_of_row ho
        have hol : out.length ≤ 1000000 := by omega
        go_wp2_with (refine wpList_append_own _ rfl _ _ 24 rfl w.heap.size 9 i0 (.string ByteArray.empty) 1 16 Tryz.underlying24 hi0 hz0 hz1 hz2 rfl (by decide) _ _ _ rfl (ho.alloc _) _ 1 1 [.string ⟨d.toArray⟩] rfl rfl ?e11 ?e21 ?e31 ?e41 ?e51 ?_)
        case e11 => exact news_at (cs := #[.string ⟨d.toArray⟩]) (heap_alloc_new _ _)
        case e21 => simp [Value.oneCell']
        case e31 => unfold maxLen; (try simp) <;> omega
        case e41 => (try simp) <;> omega
        case e51 => have := HB.out.size; simp; omega
        intro v6 w6 hown6 hg6 _
        have hbA := HB.out.alloc HB.out.size (.cells #[.string ⟨d.toArray⟩] 9)
        have hb6 := hbA.grown hg6 hbA.size (fun k hk => row_own ho hk)
        have c1 := (hb6.cell (p := ⟨b, j * 3 + 1, none⟩) hbB).trans P1.out
        have hown7 : w6.ownsRow w.heap.size 9 1 v6 (out ++ [d]).length ((out ++ [d]).map sv) := by simpa [sv] using hown6
        obtain ⟨g, cp, rfl, _, _, hcell, _, _⟩ := row_set hown7 out.length (by simp)
        rw [List.getElem_append_right (Nat.le_refl _)] at hcell
        simp only [Nat.sub_self, List.getElem_cons_zero] at hcell
        have HB6 := Lib.hid hb6
        have HO7 := Lib.hid hown7
        clear ho hown6 hg6 hbA hb6 hown7
        rw [show (out ++ [d]).length = out.length + 1 by simp]
        by_cases hdl : d.length ≤ len
        · have HZ := Lib.hid (show JoSt w len l T w6 (j + 1) af (out ++ [d]) (.slice (some ⟨g, 0, none⟩) (out ++ [d]).length cp) from ⟨HB6.out, HO7.out, by rw [hT, if_pos hdl], by rw [List.length_append]; simp only [List.length_singleton]; omega, fun _ => by simp, fun x hx => by
            rcases List.mem_append.1 hx with hx | hx
            · exact HSM.out x hx
            · rw [List.mem_singleton.1 hx]; exact hdl⟩)
          rw [show (out ++ [d]).length = out.length + 1 by simp] at HZ
          have hdI : ¬ (len : Int) < (d.length : Int) := by omega
          clear hdl hT HO7
          go_wp2_with fail
          go_roundw
          case rel => exact ⟨j + 1, af, out ++ [d], by omega, by go_num, rfl, HZ.out⟩
          case measure => simp [intOf]; omega
        · have HT := Lib.hid (show T = none by rw [hT, if_neg hdl])
          have hdI : (len : Int) < (d.length : Int) := by omega
          clear hdl hT HO7
          go_wp2_with fail
          go_ret2
          exact UPost.no HT.out HB6.out
      | true =>
        obtain ⟨o1, a1, rfl⟩ : ∃ o1 a1, out = o1 ++ [a1] := ⟨_, _, (List.dropLast_concat_getLast (HNE.out rfl)).symm⟩
        replace hT : T = if (a1 ++ d).length ≤ len then joinP len af (o1 ++ [a1 ++ d]) (l.drop (j + 1)) else none := by
          rw [hT]; unfold jstep; rw [if_pos rfl, putLast_snoc, last_snoc]; simp
        have ha1 := HSM.out a1 (by simp)
        obtain ⟨g, cp, rfl, hg, hgl, hcell, hfr, hset⟩ := row_set HO.out o1.length (by simp)
        rw [List.getElem_append_right (Nat.le_refl _)] at hcell
        simp only [Nat.sub_self, List.getElem_cons_zero] at hcell
        have hset9 : (wr.setCell ⟨g, o1.length, none⟩ (.string ⟨(a1 ++ d).toArray⟩)).ownsRow w.heap.size 9 1 (.slice (some ⟨g, 0, none⟩) (o1.length + 1) cp) (o1 ++ [a1 ++ d]).length ((o1 ++ [a1 ++ d]).map sv) := by
          have h2 := hset wr (a1 ++ d) rfl
          rw [set_last, show (o1 ++ [a1]).length = o1.length + 1 by simp] at h2; exact h2
        have HT := Lib.hid hT
        clear hset hT
        rw [show (o1 ++ [a1]).length = o1.length + 1 by simp]
        have n1 : ¬ 9223372036854775807 < a1.length + d.length := by omega
        have n2 : o1.length + 1 ≤ j := by rw [List.length_append, List.length_singleton] at hfew; exact hfew
        have hB9 := HB.out.setCell (p := ⟨g, o1.length, none⟩) hg (.string ⟨(a1 ++ d).toArray⟩)
        have HO10 := Lib.hid (own_below hset9 below_drew1)
        have HB10 := Lib.hid (hB9.trans (below_drew1.mono hB9.size))
        clear hset9 hB9 HO
        go_wp2_with fail
        go_region
        obtain ⟨W10, hW10⟩ : ∃ W10, W10 = (wr.setCell ⟨g, o1.length, none⟩ (.string ⟨(a1 ++ d).toArray⟩)).drew := ⟨_, rfl⟩
        have hO10 := HO10.out
        have hB10 := HB10.out
        clear HO10 HB10 hcell hfr c0 c2
        rw [← hW10] at hO10 hB10 ⊢
        have c1 := (hB10.cell (p := ⟨b, j * 3 + 1, none⟩) hbB).trans P1.out
        have c10 := row_cell hO10 o1.length (by simp)
        rw [List.getElem_append_right (Nat.le_refl _)] at c10
        simp only [Nat.sub_self, List.getElem_cons_zero] at c10
        have HB6 := Lib.hid hB10
        have HO7 := Lib.hid hO10
        clear hW10 hB10 hO10
        have hlx : (a1 ++ d).length = a1.length + d.length := List.length_append
        by_cases hdl : (a1 ++ d).length ≤ len
        · have HZ := Lib.hid (show JoSt w len l T W10 (j + 1) af (o1 ++ [a1 ++ d]) (.slice (some ⟨g, 0, none⟩) (o1.length + 1) cp) from ⟨HB6.out, HO7.out, by rw [HT.out, if_pos hdl], by rw [List.length_append]; simp only [List.length_singleton]; omega, fun _ => by simp, fun x hx => by
            rcases List.mem_append.1 hx with hx | hx
            · exact HSM.out x (List.mem_append.2 (Or.inl hx))
            · rw [List.mem_singleton.1 hx]; exact hdl⟩)
          have hdI : ¬ (len : Int) < ((a1 ++ d).length : Int) := by omega
          generalize a1 ++ d = y at *
          clear hdl HT HO7 hlx
          go_wp2_with fail
          go_roundw
          case rel => exact ⟨j + 1, af, o1 ++ [y], by omega, by go_num, rfl, HZ.out⟩
          case measure => simp [intOf]; omega
        · have HT2 := Lib.hid (show T = none by rw [HT.out, if_neg hdl])
          have hdI : (len : Int) < ((a1 ++ d).length : Int) := by omega
          generalize a1 ++ d = y at *
          clear hdl HT HO7 hlx
          go_wp2_with fail
          go_ret2
          exact UPost.no HT2.out HB6.out
    · have hT := hS.tot
      have e : l.drop j = [] := List.drop_eq_nil_of_le (by omega)
      rw [e, joinP] at hT
      clear hS
      cases op with
      | true =>
        have HT := Lib.hid (show T = none from hT)
        clear hT
        go_wp2_with fail
        go_ret2
        exact UPost.no HT.out HB.out
      | false =>
        have HT := Lib.hid (show T = some out from hT)
        clear hT
        obtain ⟨oa, oc, rfl, _, _⟩ := newsAt_of_row HO.out
        go_wp2_with fail
        go_ret2
        exact UPost.yes HT.out HO.out HB.out
end

section
open Go.RowKit Go.Sort
attribute [local go_sem] strOfNums_size ext_drop ext_take

/-- What the loop of the reference's Unpack holds. -/
structure RuqSt (w : World) (len blk : Nat) (l : List By) (S : Option (List Seg)) (W : World) (j : Nat) (all : List Seg) (v : Value) : Prop where
  bel : Below w.heap.size w W
  own : W.ownsRow w.heap.size 151 3 v all.length (flatS all)
  tot : S = (segsU len blk (l.drop j)).map (all ++ ·)
  few : all.length + (l.drop j).flatten.length ≤ 40000
  sml : ∀ s ∈ all, s.2.2.length ≤ 1000

set_option maxRecDepth 100000 in
set_option maxHeartbeats 4000000 in
theorem rsunpack_any (w : World) (B : Nat) (a : Option Addr) (cap : Nat) (l : List By) (len blk : Nat) (h : Strs w B a l) (hB : B ≤ w.heap.size) (hl : l.length ≤ 1000000) (hsum : l.flatten.length ≤ 40000) (hv : spnV len blk = true) :
    Calls Tryz.prog 79 #[.int .i64 len, .int .i64 blk, .slice a l.length cap] w fun e w' => UPost w (spanU len blk l) e w' := by
  have hbd : 1 ≤ (len : Int) ∧ (len : Int) ≤ 1000 ∧ (9 : Int) ≤ blk ∧ (blk : Int) ≤ 1024 := by have hv := hv; simp [spnV] at hv; omega
  obtain ⟨d1, d2, d3, d4⟩ := hbd
  obtain ⟨i0, hi0, hz0, hz1, hz2⟩ := info_parts infoR
  have HV := Lib.hid hv
  have hT : spanU len blk l = match segsU len blk l with
    | none => none
    | some all => match joinP len false [] all with
      | none => none
      | some R => if spanA blk R = l then some R else none := rfl
  generalize spanU len blk l = T at hT ⊢
  have HS := Lib.hid (show RuqSt w len blk l (segsU len blk l) (w.alloc (.cells #[] 151)) 0 [] (.slice (some ⟨w.heap.size, 0, none⟩) 0 0) from ⟨(Below.refl _ _).alloc (Nat.le_refl _) _, World.ownsRow_lit (base := w.heap.size) (e := 151) (size := 3) w #[] 0 (Nat.le_refl _) (by simp [maxLen]) rfl, by rw [List.drop_zero]; cases segsU len blk l <;> rfl, by simpa using hsum, fun s hs => (by cases hs)⟩)
  generalize segsU len blk l = S at hT HS
  have HT := Lib.hid hT
  clear hv hT hsum
  go_enter Tryz.func79, Tryz.ntmps79
  go_wp2_with fail
  refine (rspn_valid _ _ _).mono ?_
  rintro e w1 ⟨rfl, rfl⟩
  rw [HV.out]
  go_wp2_with fail
  go_loopw [8, 9, 10, 11] (fun v k _ _ wr => ∃ (j : Nat) (all : List Seg), j ≤ l.length ∧ k = .int .i64 j ∧ RuqSt w len blk l S wr j all v) (fun _ k _ _ _ => l.length - (intOf k).toNat)
  case atStart => exact ⟨0, [], by omega, rfl, HS.out⟩
  case round =>
    clear HS
    obtain ⟨j, all, hj, rfl, hS⟩ := hrel
    have HB := Lib.hid hS.bel
    have HO := Lib.hid hS.own
    have HSM := Lib.hid hS.sml
    have hfew := hS.few
    by_cases hlt : j < l.length
    · obtain ⟨b, off, rfl, hbb, hc⟩ := h.get hlt
      have hcw := (hS.bel.cell (p := ⟨b, off + j, none⟩) (show b < w.heap.size by omega)).trans hc
      have hT := hS.tot.trans (by rw [segsU_drop len blk l j hlt])
      rw [List.drop_eq_getElem_cons hlt, List.flatten_cons, List.length_append] at hfew
      have hcall := rsegments_any l[j] len blk wr HV.out (by omega)
      have hlen := fun L (hL : segU len blk l[j] = some L) => segU_len hL
      clear hS hc
      generalize l[j] = d at hT hcall hcw hlen hfew
      generalize segU len blk d = R at hT hcall hlen
      have HC := Lib.hid hcall
      clear hcall
      cases R with
      | none =>
        have HS0 := Lib.hid (show S = none from hT)
        clear hT hlen
        go_wp2_with fail
        refine HC.out.mono ?_
        rintro e w2 hU
        obtain rfl := hU.bad rfl
        have HB2 := Lib.hid (HB.out.trans (hU.bel.mono HB.out.size))
        clear hU
        go_wp2_with fail
        go_ret2
        exact UPost.no (by rw [HT.out, HS0.out]) HB2.out
      | some L =>
        have HS1 := Lib.hid (show S = (segsU len blk (l.drop (j + 1))).map ((all ++ L) ++ ·) by
          rw [show S = ((segsU len blk (l.drop (j + 1))).map (L ++ ·)).map (all ++ ·) from hT]
          generalize segsU len blk (l.drop (j + 1)) = z
          cases z <;> simp)
        obtain ⟨hL1, hL2⟩ := hlen L rfl
        have HL2 := Lib.hid hL2
        clear hT hlen hL2
        go_wp2_with fail
        refine HC.out.mono ?_
        rintro e w2 hU
        obtain ⟨v2, rfl, ho2⟩ := hU.good L rfl
        have HB2 := Lib.hid (HB.out.trans (hU.bel.mono HB.out.size))
        have hown2 := own_below HO.out hU.bel
        clear hU
        obtain ⟨na, nc, rfl, _, hN⟩ := news_row3 ho2
        clear ho2
        go_wp2_with (at_builtin; (refine wpList_append_rows rfl _ _ 131 rfl w.heap.size 151 i0 (.agg #[.bool false, .bool false, .string ByteArray.empty]) 3 24 Tryz.underlying131 hi0 hz0 hz1 hz2 rfl (by decide) _ _ _ rfl hown2 _ _ _ (flatS L) rfl (flatS_length L) hN.out (one_flatS L) (by unfold maxLen; omega) (by omega) HB2.out.size ?_))
        intro v6 w6 hown6 hg6
        have hb6 := HB2.out.grown hg6 HB2.out.size (fun k hk => row_own hown2 hk)
        have HZ := Lib.hid (show RuqSt w len blk l S w6 (j + 1) (all ++ L) v6 from ⟨hb6, by rw [List.length_append, flatS_append]; exact hown6, HS1.out, by rw [List.length_append]; omega, fun s hs => by
          rcases List.mem_append.1 hs with hs | hs
          · exact HSM.out s hs
          · have := HL2.out s hs; omega⟩)
        clear hown2 hown6 hg6 hb6 hN
        go_wp2_with fail
        go_roundw
        case rel => exact ⟨j + 1, all ++ L, by omega, by go_num, HZ.out⟩
        case measure => simp [intOf]; omega
    · obtain rfl : j = l.length := by omega
      have hSa : S = some all := by rw [hS.tot, List.drop_length]; simp [segsU]
      have hT := HT.out
      rw [hSa] at hT
      have hfw : all.length ≤ 40000 := by omega
      obtain ⟨na, nc, rfl, _, _, hSg⟩ := segs_row3 HO.out
      have hcall := rjoin_seg na nc wr.heap.size all len wr hSg (Nat.le_refl _) (by omega) (by omega) HSM.out
      have hjl := fun R (hR : joinP len false [] all = some R) => joinP_len len all false [] R hR (fun x hx => (by cases hx))
      clear hS hSa hSg HT HSM
      have hT : T = match joinP len false [] all with
        | none => none
        | some R => if spanA blk R = l then some R else none := hT
      generalize joinP len false [] all = J at hT hcall hjl
      have HC := Lib.hid hcall
      clear hcall
      cases J with
      | none =>
        have HT := Lib.hid (show T = none from hT)
        clear hT hjl
        go_wp2_with fail
        refine HC.out.mono ?_
        rintro e w2 hU
        obtain rfl := hU.bad rfl
        have HB2 := Lib.hid (HB.out.trans (hU.bel.mono HB.out.size))
        clear hU
        have HP := Lib.hid (rspack_any w2 0 none 0 [] len blk (strs_nil _ _ _) (Nat.zero_le _) (by simp) HV.out)
        go_wp2_with fail
        refine HP.out.mono ?_
        rintro e w3 hP
        obtain ⟨v3, rfl, ho3⟩ := hP.good rfl
        have HB3 := Lib.hid (HB2.out.trans (hP.bel.mono HB2.out.size))
        clear hP ho3
        go_wp2_with fail
        go_ret2
        exact UPost.no HT.out HB3.out
      | some R =>
        obtain ⟨hR1, hR2⟩ := hjl R rfl
        have HR2 := Lib.hid hR2
        have HT := Lib.hid (show T = if spanA blk R = l then some R else none from hT)
        have hR1 : R.length ≤ 40000 := by simp only [List.length_nil] at hR1; omega
        clear hT hjl hR2
        go_wp2_with fail
        refine HC.out.mono ?_
        rintro e w2 hU
        obtain ⟨v2, rfl, ho2⟩ := hU.good R rfl
        have HB2 := Lib.hid (HB.out.trans (hU.bel.mono HB.out.size))
        clear hU
        obtain ⟨ra, rc, rfl, _, hRS⟩ := newsAt_of_row ho2
        have HO2 := Lib.hid (own_mono ho2 HB.out.size)
        have HRS := Lib.hid hRS
        clear ho2 hRS
        have HP := Lib.hid (rspack_any w2 w2.heap.size ra rc R len blk HRS.out (Nat.le_refl _) hR1 HV.out)
        have HAL := Lib.hid (show (R.all fun r => decide (r.length ≤ len)) = true by rw [List.all_eq_true]; exact fun r hr => by simpa using HR2.out r hr)
        rw [HAL.out] at HP
        go_wp2_with fail
        refine HP.out.mono ?_
        rintro e w3 hP
        obtain ⟨v3, rfl, ho3⟩ := hP.good rfl
        have hb3 := hP.bel
        clear hP
        obtain ⟨pa, pc, rfl, _, hPS⟩ := newsAt_of_row ho3
        have HB3 := Lib.hid (HB2.out.trans (hb3.mono HB2.out.size))
        have HO3 := Lib.hid (own_below HO2.out hb3)
        have HPS := Lib.hid hPS
        have hq := rsame_any w3 w3.heap.size B pa a pc cap (spanA blk R) l hPS (h.below (HB3.out.mono hB)) (by have := (spanA_bd blk (by omega) R (fun r hr => by have := HR2.out r hr; omega)).1; omega) (by omega)
        clear ho3 hb3 hPS
        by_cases he : spanA blk R = l
        · have HT2 := Lib.hid (show T = some R by rw [HT.out, if_pos he])
          have HQ := Lib.hid hq
          rw [show decide (spanA blk R = l) = true by simp [he]] at HQ
          clear HT he hq
          generalize spanA blk R = P at *
          go_wp2_with fail
          refine HQ.out.mono ?_
          rintro e w4 ⟨rfl, hb4⟩
          have HB4 := Lib.hid (HB3.out.trans (hb4.mono HB3.out.size))
          have HO4 := Lib.hid (own_below HO3.out hb4)
          clear hb4
          go_wp2_with fail
          go_ret2
          exact UPost.yes HT2.out HO4.out HB4.out
        · have HT2 := Lib.hid (show T = none by rw [HT.out, if_neg he])
          have HQ := Lib.hid hq
          rw [show decide (spanA blk R = l) = false by simp [he]] at HQ
          clear HT he hq
          generalize spanA blk R = P at *
          go_wp2_with fail
          refine HQ.out.mono ?_
          rintro e w4 ⟨rfl, hb4⟩
          have HB4 := Lib.hid (HB3.out.trans (hb4.mono HB3.out.size))
          clear hb4
          go_wp2_with fail
          go_ret2
          exact UPost.no HT2.out HB4.out
end

section
open Go.RowKit Go.Sort
attribute [local go_sem] strOfNums_size ext_drop ext_take
attribute [local go_sem ↓] loadDs_down

/-- The records of blocks that are packed to the same blocks. -/
def unpW (fmt : Int) (len blk : Nat) (V : List By) : Option (List By) :=
  match unpV fmt len blk V with
  | none => none
  | some R => if packV fmt len blk R = V then some R else none
theorem mem_flat_len : ∀ {l : List By} {d : By}, d ∈ l → d.length ≤ l.flatten.length
  | x :: l, d, h => by
    rw [List.flatten_cons, List.length_append]
    rcases List.mem_cons.1 h with rfl | h
    · omega
    · have := mem_flat_len h; omega
theorem UPost.from {w w1 w' : World} {T : Option (List By)} {e : Ending} (h : UPost w1 T e w') (hb : Below w.heap.size w w1) : UPost w T e w' :=
  ⟨fun L hL => by obtain ⟨v, h1, h2⟩ := h.good L hL; exact ⟨v, h1, own_mono h2 hb.size⟩, h.bad, hb.trans (h.bel.mono hb.size)⟩
theorem own_up {w : World} {base base' : Nat} {e : TypeId} {size : Nat} {v : Value} {n : Nat} {xs : List Value} (h : w.ownsRow base e size v n xs) (hb : base' ≤ base) : w.ownsRow base' e size v n xs := own_mono h hb

set_option maxRecDepth 100000 in
set_option maxHeartbeats 2000000 in
theorem runpack2_any (w : World) (B : Nat) (a : Option Addr) (cap : Nat) (l : List By) (len blk : Nat) (h : Strs w B a l) (hB : B ≤ w.heap.size) (hl : l.length ≤ 1000000) (hsum : l.flatten.length ≤ 40000) (hdv : dsV 0 2 len blk = true) :
    Calls Tryz.prog 63 #[.agg (dsv 0 2 len blk), .slice a l.length cap] w fun e w' => UPost w (unpW 2 len blk l) e w' := by
  have hv : spnV len blk = true := by
    rcases ds_parts hdv with ⟨h, _⟩ | ⟨h, _⟩ | ⟨_, h⟩
    · cases h
    · cases h
    · exact h
  have hU : unpW 2 len blk l = spanU len blk l := by
    unfold unpW
    rw [show unpV 2 len blk l = spanU len blk l by unfold unpV; simp]
    cases hs : spanU len blk l with
    | none => rfl
    | some R =>
      have hp : packV 2 len blk R = l := by
        unfold spanU at hs
        split at hs
        · cases hs
        · split at hs
          · cases hs
          · split at hs
            · rename_i hq
              obtain rfl := Option.some.inj hs
              rw [← hq]; unfold packV; rw [if_neg (by decide), if_neg (by decide)]
            · cases hs
      simp only
      rw [if_pos hp]
  rw [hU]
  have hZ := heap_alloc_new w (.cells (dsv 0 2 len blk) 29)
  have c2 := cell_at (i := 2) (v := .int .i64 2) hZ rfl
  have c3 := cell_at (i := 3) (v := .int .i64 len) hZ rfl
  have c4 := cell_at (i := 4) (v := .int .i64 blk) hZ rfl
  have HB := Lib.hid (box_below w (dsv 0 2 len blk) 29)
  have HP := Lib.hid (rsunpack_any (w.alloc (.cells (dsv 0 2 len blk) 29)) B a cap l len blk (h.below (HB.out.mono hB)) (Nat.le_trans hB HB.out.size) hl hsum hv)
  generalize spanU len blk l = T at HP ⊢
  clear hZ hU hv hdv hsum
  go_enter Tryz.func63, Tryz.ntmps63
  go_wp2_with fail
  refine HP.out.mono ?_
  rintro e w1 hP
  have HQ := Lib.hid (hP.from HB.out)
  obtain ⟨v, k, rfl, _⟩ := hP.any
  clear hP
  go_wp2_with fail
  go_ret2
  exact HQ.out
end

end Go.Proofs.YthkpcalopmddpaaGreatDoor

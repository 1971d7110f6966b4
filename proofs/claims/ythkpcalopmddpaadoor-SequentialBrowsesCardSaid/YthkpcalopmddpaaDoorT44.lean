/-
  Walks: whether two lists of texts are the same; sectors with writes. Conditions: numbers of at most 5000.
-/
import Derived.Test.YthkpcalopmddpaaDoorGB
import Derived.Test.YthkpcalopmddpaaDoorT33
import Derived.Test.YthkpcalopmddpaaDoorT40
import Derived.Test.YthkpcalopmddpaaDoorS12
import Derived.Test.YthkpcalopmddpaaDoorGJ
namespace Go.Proofs.YthkpcalopmddpaaDoor
open Go.RowKit Go.Sort
attribute [local go_sem] ByteArray.mk_append_mk strOfNums_size ext_drop ext_take

set_option maxRecDepth 100000 in
set_option maxHeartbeats 2000000 in
theorem rsame_any (w : World) (B B2 : Nat) (a b : Option Addr) (c d : Nat) (l m : List By) (ha : Strs w B a l) (hb : Strs w B2 b m) (hl : l.length ≤ 4000000000) (hm : m.length ≤ 4000000000) :
    Calls Tryd.prog 23 #[.slice a l.length c, .slice b m.length d] w fun e w' => e = .returned (.bool (decide (l = m))) ∧ Below w.heap.size w w' := by
  by_cases hlen : l.length = m.length
  · go_enter Tryd.func23, Tryd.ntmps23
    have hne : ((l.length : Int) != (m.length : Int)) = false := by rw [hlen]; simp
    have hne2 : (l.length != m.length) = false := by rw [hlen]; simp
    have HL := Lib.hid hlen
    clear hlen
    go_wp2_with fail
    go_loopw [5] (fun k wr => ∃ j : Nat, j ≤ l.length ∧ k = .int .i64 j ∧ Below w.heap.size w wr ∧ l.take j = m.take j) (fun k _ => l.length - (intOf k).toNat)
    case atStart => exact ⟨0, by omega, rfl, Below.refl _ _, rfl⟩
    case round =>
      obtain ⟨j, hj, rfl, hbw, hE⟩ := hrel
      have HBW := Lib.hid hbw
      by_cases hlt : j < l.length
      · obtain ⟨b1, o1, rfl, _, x1⟩ := ha.get hlt
        obtain ⟨b2, o2, rfl, _, y1⟩ := hb.get (HL.out ▸ hlt)
        have hltm : j < m.length := HL.out ▸ hlt
        replace x1 := (hbw.cell (block_lt_of_cell x1)).trans x1
        replace y1 := (hbw.cell (block_lt_of_cell y1)).trans y1
        clear hbw
        have HE := Lib.hid hE
        clear hE
        generalize hx : l[j] = x at x1
        generalize hy : m[j] = y at y1
        have HX := Lib.hid hx
        have HY := Lib.hid hy
        clear hx hy
        by_cases h2 : x = y
        · subst h2
          have HN := Lib.hid (show l.take (j + 1) = m.take (j + 1) by rw [take_snoc' l j hlt, take_snoc' m j hltm, HE.out, HX.out, HY.out])
          go_wp2_with fail
          go_region
          go_wp2_with fail
          go_roundw
          case rel => exact ⟨j + 1, by omega, by go_num, below_drewN HBW.out 1, HN.out⟩
          case measure => simp [intOf]; omega
        · have H := Lib.hid (show decide (l = m) = false by
            rw [decide_eq_false_iff_not]; intro e; subst e
            exact h2 (HX.out.symm.trans HY.out))
          have hxb : (x == y) = false := by simpa using h2
          clear h2
          go_wp2_with fail
          go_region
          go_wp2_with fail
          go_ret
          exact ⟨by rw [H.out]; rfl, by first | exact HBW.out | exact below_drewN HBW.out 1⟩
      · have H := Lib.hid (show decide (l = m) = true by
          rw [decide_eq_true_iff, ← List.take_of_length_le (show l.length ≤ j by omega), hE, List.take_of_length_le (by rw [← HL.out]; omega)])
        clear hE hbw
        go_wp2_with fail
        go_ret
        exact ⟨by rw [H.out]; rfl, HBW.out⟩
  · have H := Lib.hid (show decide (l = m) = false by rw [decide_eq_false_iff_not]; intro e; subst e; exact hlen rfl)
    have hne : ((l.length : Int) != (m.length : Int)) = true := by simp; omega
    have hne2 : (l.length != m.length) = true := by simp; omega
    clear hlen
    go_enter Tryd.func23, Tryd.ntmps23
    go_wp2_with fail
    go_ret
    exact ⟨by rw [H.out]; rfl, Below.refl _ _⟩

theorem padTo_snoc {out : List By} {n : Nat} (h : out.length ≤ n) : padTo (out ++ [zeros 128]) (n + 1) = padTo out (n + 1) := by
  unfold padTo
  rw [List.length_append, List.length_singleton, List.append_assoc, show n + 1 - out.length = (n + 1 - (out.length + 1)) + 1 by omega, List.replicate_succ]; rfl
/-- What Put holds: the sectors so far, in new cells. -/
structure PtSt (w : World) (wr : World) (out : List By) (v : Value) : Prop where
  bel : Below w.heap.size w wr
  own : wr.ownsRow w.heap.size 9 1 v out.length (out.map sv)

set_option maxRecDepth 100000 in
set_option maxHeartbeats 4000000 in
theorem put_sec (w : World) (B : Nat) (v : Value) (l : List By) (a : Option Addr) (cap : Nat) (ws : List (Nat × By)) (h : Txt w B v l) (hB : B ≤ w.heap.size) (hw : Wrs w a ws) (hl : l.length ≤ 10000) (hwl : ws.length ≤ 10000) (hn : ∀ x ∈ ws, x.1 ≤ 5000) :
    Calls Tryd.prog 24 #[v, .slice a ws.length cap] w fun e w' => ∃ v', e = .returned v' ∧ w'.ownsRow w.heap.size 9 1 v' (putV l ws).length ((putV l ws).map sv) ∧ Below w.heap.size w w' := by
  obtain ⟨i0, hi0, hz0, hz1, hz2⟩ := info_parts info9
  obtain ⟨la, lc, rfl, _, hn0, _, _⟩ := h.at_
  have HB0 := Lib.hid (box_below w #[] 9)
  have HN := Lib.hid (hn0.below (HB0.out.mono hB))
  have hlit : (w.alloc (.cells #[] 9)).ownsRow w.heap.size 9 1 (.slice (some ⟨w.heap.size, 0, none⟩) 0 0) 0 [] :=
    World.ownsRow_lit (base := w.heap.size) (e := 9) (size := 1) w #[] 0 (Nat.le_refl _) (by simp [maxLen]) rfl
  have HL := Lib.hid hlit
  clear hn0 h hlit
  go_enter Tryd.func24, Tryd.ntmps24
  go_wp2_with (at_builtin; (refine wpList_append_rows rfl _ _ 39 rfl w.heap.size 9 i0 (.string ByteArray.empty) 1 16 Tryd.underlying39 hi0 hz0 hz1 hz2 rfl (by decide) _ _ _ rfl HL.out _ _ _ (l.map sv) rfl (by simp) HN.out.out (one_sv l) (by unfold maxLen; omega) (by omega) HB0.out.size ?_))
  intro v2 w2 ho2 hg2
  have HS := Lib.hid (show PtSt w w2 l v2 from ⟨HB0.out.grown hg2 HB0.out.size (fun k hk => row_own HL.out hk), by simpa using ho2⟩)
  clear ho2 hg2 HL HN
  go_wp2_with fail
  go_loopw [5, 6, 7] (fun o k _ wr => ∃ (j : Nat) (out : List By), j ≤ ws.length ∧ k = .int .i64 j ∧ PtSt w wr out o ∧ putV l ws = putV out (ws.drop j) ∧ out.length ≤ 10000) (fun _ k _ _ => ws.length - (intOf k).toNat)
  case atStart => exact ⟨0, l, by omega, rfl, HS.out, rfl, hl⟩
  case round =>
    clear HS
    obtain ⟨j, out, hj, rfl, hS, htot, hol⟩ := hrel
    by_cases hlt : j < ws.length
    · obtain ⟨b, rfl, x1, x2⟩ := hw.get hlt
      replace x1 := (hS.bel.cell (block_lt_of_cell x1)).trans x1
      have hxn := hn ws[j] (List.getElem_mem hlt)
      rw [List.drop_eq_getElem_cons hlt] at htot
      have HX2 := Lib.hid x2
      clear x2
      generalize ws[j] = x at x1 htot hxn HX2
      obtain ⟨n, d⟩ := x
      simp only at x1 hxn HX2
      have hn0 : (0 : Int) ≤ (n : Int) := by omega
      have hn1 : (n : Int) ≤ 5000 := by omega
      rw [putV, if_neg (by simp only; omega)] at htot
      simp only at htot
      have HT := Lib.hid htot
      have HS := Lib.hid hS
      clear htot hS
      go_wp2_with fail
      go_loopw [5] (fun o wr2 => ∃ out2 : List By, PtSt w wr2 out2 o ∧ padTo out2 (n + 1) = padTo out (n + 1) ∧ out.length ≤ out2.length ∧ out2.length ≤ 10000) (fun o _ => n + 1 - (match o with | .slice _ m _ => m | _ => 0))
      case atStart => exact ⟨out, HS.out, rfl, Nat.le_refl _, hol⟩
      case round =>
        clear HS
        obtain ⟨out2, hS2, hp2, hle2, hm2⟩ := hrel
        have HO := Lib.hid hS2.own
        have HB := Lib.hid hS2.bel
        obtain ⟨oa, oc, rfl⟩ := own_slice hS2.own
        clear hS2
        by_cases hc : out2.length ≤ n
        · have hcI : (out2.length : Int) ≤ (n : Int) := by omega
          have HP := Lib.hid (hp2)
          have hpn : padTo (out2 ++ [zeros 128]) (n + 1) = padTo out2 (n + 1) := padTo_snoc hc
          have HPN := Lib.hid (hpn.trans hp2)
          have hpd := fun W => padded_any [] 128 W (by simp) (by omega)
          simp only [List.nil_append, List.length_nil, Nat.sub_zero] at hpd
          have HPD := Lib.hid hpd
          clear hp2 hpn hpd
          go_wp2_with fail
          refine (HPD.out _).mono ?_
          rintro e w3 ⟨rfl, rfl⟩
          have hown2 := HO.out
          go_wp2_with (at_builtin; go_must (refine wpList_append_own _ rfl _ _ 39 rfl w.heap.size 9 i0 (.string ByteArray.empty) 1 16 Tryd.underlying39 hi0 hz0 hz1 hz2 rfl (by decide) _ _ _ rfl (hown2.alloc _) _ 1 1 [.string ⟨(zeros 128).toArray⟩] rfl rfl ?e11 ?e21 ?e31 ?e41 ?e51 ?_))
          case e11 => exact news_at (cs := #[.string ⟨(zeros 128).toArray⟩]) (heap_alloc_new _ _)
          case e21 => simp [Value.oneCell']
          case e31 => unfold maxLen; (try simp); omega
          case e41 => (try simp); omega
          case e51 => have := HB.out.size; simp at this ⊢; omega
          intro v6 w6 hown6 hg6 _
          have hbA := HB.out.alloc HB.out.size (.cells #[.string ⟨(zeros 128).toArray⟩] 9)
          have hb6 := hbA.grown hg6 hbA.size (fun k hk => row_own hown2 hk)
          have hown7 : w6.ownsRow w.heap.size 9 1 v6 (out2 ++ [zeros 128]).length ((out2 ++ [zeros 128]).map sv) := by simpa [sv] using hown6
          have HZ := Lib.hid (show PtSt w w6 (out2 ++ [zeros 128]) v6 from ⟨hb6, hown7⟩)
          obtain ⟨a6, c6, rfl⟩ := own_slice hown7
          clear hown2 hown6 hown7 hg6 hbA hb6
          go_wp2_with fail
          go_roundw
          case rel => exact ⟨out2 ++ [zeros 128], HZ.out, HPN.out, by rw [List.length_append]; omega, by rw [List.length_append, List.length_singleton]; omega⟩
          case measure => simp; omega
        · have hcI : ¬ (out2.length : Int) ≤ (n : Int) := by omega
          have hpe : padTo out (n + 1) = out2 := hp2.symm.trans (padTo_no (by omega))
          obtain ⟨g, cp, hsl, hgb, hgl, hcell, hfr, hset⟩ := row_set HO.out n (by omega)
          obtain ⟨rfl, rfl⟩ : oa = some ⟨g, 0, none⟩ ∧ oc = cp := by injection hsl with h1 _ h2; exact ⟨h1, h2⟩
          have hx2 := (HB.out.cell (block_lt_of_cell HX2.out)).trans HX2.out
          have hn2 : (n : Int) < (out2.length : Int) := by omega
          have HSET := Lib.hid (hset wr d rfl)
          have hT2 := HT.out
          rw [hpe] at hT2
          have HT2 := Lib.hid hT2
          clear hT2 hpe hp2 hset hsl
          go_wp2_with fail
          go_roundw
          case rel => exact ⟨j + 1, out2.set n d, by omega, by go_num, ⟨HB.out.setCell (show w.heap.size ≤ (⟨g, n, none⟩ : Addr).block from hgb) _, HSET.out⟩, HT2.out, by rw [List.length_set]; omega⟩
          case measure => simp [intOf]; omega
    · have hT : putV l ws = out := by rw [htot, List.drop_eq_nil_of_le (by omega)]; rfl
      have HO := Lib.hid hS.own
      have HB := Lib.hid hS.bel
      have HT := Lib.hid hT
      obtain ⟨oa, oc, rfl⟩ := own_slice hS.own
      clear hS htot hT
      go_wp2_with fail
      go_ret
      rw [HT.out]
      exact ⟨_, rfl, HO.out, HB.out⟩

end Go.Proofs.YthkpcalopmddpaaDoor

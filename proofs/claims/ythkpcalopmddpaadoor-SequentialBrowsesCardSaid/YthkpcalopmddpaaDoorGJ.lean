/-
  Walks: Build and Format, by the reference. Condition: at most 900 records.
  Walks: whether two lists of writes are the same.
  Walks: Format, by the reference; the example of the chapter.
  Walks: the law SequentialBuilds. Conditions: the records lie in memory as a slice; the table of codes is laid.
-/
import Derived.Test.YthkpcalopmddpaaDoorGE
import Derived.Test.YthkpcalopmddpaaDoorGI
import Derived.Test.YthkpcalopmddpaaDoorGF
namespace Go.Proofs.YthkpcalopmddpaaDoor

section
open Go.RowKit Go.Sort

set_option maxRecDepth 100000 in
set_option maxHeartbeats 4000000 in
theorem rbuildOk_any (fmt : Int) (len blk n : Nat) (w : World) (B : Nat) (a : Option Addr) (cap : Nat) (l : List By) (h : Strs w B a l) (hB : B ≤ w.heap.size) (hl : l.length ≤ 900) (hd : dsV 0 fmt len blk = true) (hn : numV n = true) (ha : alwV fmt len l = true) :
    Calls Tryd.prog 14 #[.agg (dsv 0 fmt len blk), .int .i64 n, .slice a l.length cap] w fun e w' => WPost w (writesOf n l.length (streamOf (packV fmt len blk l))) 0 e w' := by
  have hbd := packV_bd fmt len blk l hd ha hl
  have hnn : n ≤ 1099511627776 := by simp [numV] at hn; omega
  obtain ⟨i0, hi0, hz0, hz1, hz2⟩ := info_parts infoW
  have HV := Lib.hid (fun W => rvalid_any 0 fmt len blk W)
  have HPK := Lib.hid (fun W b1 b2 => rpack_any fmt len blk W B a cap l b1 b2 hl hd)
  have HNV := Lib.hid (rnum_valid (n : Int))
  rw [hd] at HV
  rw [ha] at HPK
  rw [hn] at HNV
  clear hd ha hn
  generalize packV fmt len blk l = V at hbd HPK ⊢
  have hall := hbd.all
  have hvl := hbd.few
  have HBD := Lib.hid hbd
  have HST := Lib.hid (fun W BB aa cc h1 h2 => rstream_any W BB aa cc V h1 h2 (Nat.le_trans hvl (by omega)) hall (fun r hr => Nat.le_trans (HBD.out.sml r hr) (by omega)))
  generalize streamOf V = S at hall HST ⊢
  have hsl := secA_le S.length S
  have HC := Lib.hid (fun W => rcut_any S W hall)
  rw [show secB S.length S 0 = secA S.length S by rw [secB_eq]; rfl] at HC
  have HD0 := Lib.hid (heap_alloc_new w (.cells (dsv 0 fmt len blk) 28))
  have HB0 := Lib.hid (box_below w (dsv 0 fmt len blk) 28)
  clear hbd
  go_enter Tryd.func14, Tryd.ntmps14
  go_wp2_with (refine wpList_load_row rfl _ _ rfl w.heap.size rfl 28 (dsv 0 fmt len blk) (0, 0) _ HD0.out Tryd.underlying28 rfl (by rw [info_ds]; rfl) ?_)
  refine (HV.out _).mono ?_
  rintro e w1 ⟨rfl, hb1⟩
  have HD1 := Lib.hid ((hb1.block w.heap.size (lt_of_block HD0.out)).trans HD0.out)
  have HB1 := Lib.hid (HB0.out.trans (hb1.mono HB0.out.size))
  clear hb1
  go_wp2_with fail
  refine (HNV.out _).mono ?_
  rintro e _ ⟨rfl, rfl⟩
  go_wp2_with (refine wpList_load_row rfl _ _ rfl w.heap.size rfl 28 (dsv 0 fmt len blk) (0, 0) _ HD1.out Tryd.underlying28 rfl (by rw [info_ds]; rfl) ?_)
  refine (HPK.out _ (h.below (HB1.out.mono hB)) (Nat.le_trans hB HB1.out.size)).mono ?_
  rintro e w2 hP
  obtain ⟨v, rfl, hov⟩ := hP.good rfl
  obtain ⟨va, vc, rfl, _, hVS⟩ := newsAt_of_row hov
  have HB2 := Lib.hid (HB1.out.trans (hP.bel.mono HB1.out.size))
  clear hP hov
  go_wp2_with fail
  refine (HST.out _ _ va vc hVS (Nat.le_refl _)).mono ?_
  rintro e w3 ⟨rfl, hb3⟩
  have HB3 := Lib.hid (HB2.out.trans (hb3.mono HB2.out.size))
  clear hb3 hVS
  go_wp2_with fail
  refine (rhead_any n l.length S.length _ (by omega) (by omega) (by omega)).mono ?_
  rintro e w5 ⟨rfl, hb5⟩
  have HB5 := Lib.hid (HB3.out.trans (hb5.mono HB3.out.size))
  clear hb5
  have hhd : pad (num n ++ num l.length ++ num S.length) = headB n l.length S.length := rfl
  rw [hhd]
  have hT : writesOf n l.length S = (0, headB n l.length S.length) :: wr1 1 (secA S.length S) := rfl
  generalize headB n l.length S.length = hd at hT
  have HT := Lib.hid hT
  clear hT hhd
  go_wp2_with fail
  refine (HC.out _).mono ?_
  rintro e w6 ⟨v6, rfl, ho6, hb6⟩
  generalize secA S.length S = T at hsl ho6 HT
  obtain ⟨sa, sc, rfl, hT6⟩ := strsIn_of_row ho6
  have hlit : (w5.alloc (.cells #[.int .i64 (0 : Nat), .string ⟨hd.toArray⟩] 46)).ownsRow w.heap.size 46 2 (.slice (some ⟨w5.heap.size, 0, none⟩) 1 1) 1 (flatW [(0, hd)]) :=
    World.ownsRow_lit (base := w.heap.size) (e := 46) (size := 2) w5 #[.int .i64 (0 : Nat), .string ⟨hd.toArray⟩] 1 HB5.out.size (by simp [maxLen]) rfl
  have HS := Lib.hid (show BdSt w6 w5.heap.size w.heap.size w6 ([(0, hd)] ++ wr1 1 (T.take 0)) (.slice (some ⟨w5.heap.size, 0, none⟩) 1 1) from
    ⟨Only.refl _ _, own_below hlit hb6, fun k hk => Or.inl (Option.some.inj hk).symm⟩)
  have HB6 := Lib.hid ((HB5.out.alloc HB5.out.size (.cells #[.int .i64 (0 : Nat), .string ⟨hd.toArray⟩] 46)).trans (hb6.mono (HB5.out.alloc HB5.out.size _).size))
  have HT6 := Lib.hid hT6
  clear ho6 hb6 hT6 hlit
  go_wp2_with fail
  go_loopw [11, 13] (fun o k wr => ∃ j : Nat, j ≤ T.length ∧ k = .int .i64 j ∧ BdSt w6 w5.heap.size w.heap.size wr ([(0, hd)] ++ wr1 1 (T.take j)) o) (fun _ k _ => T.length - (intOf k).toNat)
  case atStart => exact ⟨0, by omega, rfl, HS.out⟩
  case round =>
    clear HS
    obtain ⟨j, hj, rfl, hS⟩ := hrel
    have HO := Lib.hid hS.own
    by_cases hlt : j < T.length
    · obtain ⟨b, rfl, hbl, hc⟩ := hS.text HT6.out (by simp) hlt
      have hnx := wr1_take T 1 j hlt
      generalize T[j] = d at hc hnx
      have HN := Lib.hid (show [(0, hd)] ++ wr1 1 (T.take (j + 1)) = ([(0, hd)] ++ wr1 1 (T.take j)) ++ [(1 + j, d)] by rw [hnx, List.append_assoc])
      have hll : ([(0, hd)] ++ wr1 1 (T.take j)).length ≤ 1000000001 := by rw [List.length_append, wr1_length, List.length_take]; simp; omega
      have HSS := Lib.hid hS
      clear hS hnx
      generalize [(0, hd)] ++ wr1 1 (T.take j) = ws at HO HN hll HSS
      have hown := HO.out
      go_wp2_with (at_builtin; go_must (refine wpList_append_own_at _ rfl _ _ 30 rfl w.heap.size 46 i0 (.agg #[.int .i64 0, .string ByteArray.empty]) 2 24 Tryd.underlying30 hi0 hz0 hz1 hz2 rfl (by decide) _ _ _ rfl (hown.alloc _) _ 1 1 [.int .i64 (1 + (j : Int)), .string ⟨d.toArray⟩] rfl rfl ?e11 ?e21 ?e31 ?e41 ?e51 ?_))
      case e11 => exact news_at (cs := #[.int .i64 (1 + (j : Int)), .string ⟨d.toArray⟩]) (heap_alloc_new _ _)
      case e21 => simp [Value.oneCell']
      case e31 => unfold maxLen; (try simp); omega
      case e41 => (try simp); omega
      case e51 => have := HSS.out.only.size; have := HB6.out.size; simp; omega
      intro v7 w7 ho7 hg7 _ hb7
      have HZ := Lib.hid (HSS.out.step (HSS.out.only.alloc _) (1 + j, d) (by simp) (by simpa [wrC, sv] using ho7) hg7 (by simpa using hb7))
      clear ho7 hg7 hb7 hown
      go_wp2_with fail
      go_roundw
      case rel => exact ⟨j + 1, by omega, by go_num, by rw [HN.out]; exact HZ.out⟩
      case measure => simp [intOf]; omega
    · have hTl : T.take j = T := List.take_of_length_le (by omega)
      rw [hTl] at hS
      have hbf : Below w.heap.size w wr := HB6.out.trans (hS.only.below HB6.out.size (fun k hk => by simp at hk; rw [hk]; exact HB5.out.size))
      have HZ := Lib.hid hS.own
      have HBf := Lib.hid hbf
      clear hS hbf hTl HO
      go_wp2_with fail
      go_ret2
      rw [HT.out]
      exact ⟨⟨_, rfl, HZ.out⟩, HBf.out⟩

set_option maxRecDepth 100000 in
set_option maxHeartbeats 1000000 in
theorem rbuildBad_any (org fmt len blk n : Int) (w : World) (v : Value) (hd : dsV org fmt len blk = false ∨ (dsV org fmt len blk = true ∧ numV n = false)) :
    Calls Tryd.prog 14 #[.agg (dsv org fmt len blk), .int .i64 n, v] w fun e w' => WPost w [] 1 e w' := by
  have HV := Lib.hid (fun W => rvalid_any org fmt len blk W)
  have HNV := Lib.hid (rnum_valid n)
  have HD0 := Lib.hid (heap_alloc_new w (.cells (dsv org fmt len blk) 28))
  have HB0 := Lib.hid (box_below w (dsv org fmt len blk) 28)
  rcases hd with hd | ⟨hd, hn⟩
  · rw [hd] at HV
    clear hd HNV
    go_enter Tryd.func14, Tryd.ntmps14
    go_wp2_with (refine wpList_load_row rfl _ _ rfl w.heap.size rfl 28 (dsv org fmt len blk) (0, 0) _ HD0.out Tryd.underlying28 rfl (by rw [info_ds]; rfl) ?_)
    refine (HV.out _).mono ?_
    rintro e w1 ⟨rfl, hb1⟩
    have HB1 := Lib.hid (HB0.out.trans (hb1.mono HB0.out.size))
    clear hb1
    go_wp2
    go_ret2
    exact WPost.none 1 HB1.out
  · rw [hd] at HV
    rw [hn] at HNV
    clear hd hn
    go_enter Tryd.func14, Tryd.ntmps14
    go_wp2_with (refine wpList_load_row rfl _ _ rfl w.heap.size rfl 28 (dsv org fmt len blk) (0, 0) _ HD0.out Tryd.underlying28 rfl (by rw [info_ds]; rfl) ?_)
    refine (HV.out _).mono ?_
    rintro e w1 ⟨rfl, hb1⟩
    have HB1 := Lib.hid (HB0.out.trans (hb1.mono HB0.out.size))
    clear hb1
    go_wp2_with fail
    refine (HNV.out _).mono ?_
    rintro e _ ⟨rfl, rfl⟩
    go_wp2
    go_ret2
    exact WPost.none 1 HB1.out

set_option maxRecDepth 100000 in
set_option maxHeartbeats 1000000 in
theorem rbuildNot_any (fmt : Int) (len blk : Nat) (n : Int) (w : World) (B : Nat) (a : Option Addr) (cap : Nat) (l : List By) (h : Strs w B a l) (hB : B ≤ w.heap.size) (hl : l.length ≤ 900) (hd : dsV 0 fmt len blk = true) (hn : numV n = true) (ha : alwV fmt len l = false) :
    Calls Tryd.prog 14 #[.agg (dsv 0 fmt len blk), .int .i64 n, .slice a l.length cap] w fun e w' => WPost w [] 2 e w' := by
  have HV := Lib.hid (fun W => rvalid_any 0 fmt len blk W)
  have HNV := Lib.hid (rnum_valid n)
  have HPK := Lib.hid (fun W b1 b2 => rpack_any fmt len blk W B a cap l b1 b2 hl hd)
  have HD0 := Lib.hid (heap_alloc_new w (.cells (dsv 0 fmt len blk) 28))
  have HB0 := Lib.hid (box_below w (dsv 0 fmt len blk) 28)
  rw [hd] at HV
  rw [hn] at HNV
  rw [ha] at HPK
  clear hd hn ha
  go_enter Tryd.func14, Tryd.ntmps14
  go_wp2_with (refine wpList_load_row rfl _ _ rfl w.heap.size rfl 28 (dsv 0 fmt len blk) (0, 0) _ HD0.out Tryd.underlying28 rfl (by rw [info_ds]; rfl) ?_)
  refine (HV.out _).mono ?_
  rintro e w1 ⟨rfl, hb1⟩
  have HD1 := Lib.hid ((hb1.block w.heap.size (lt_of_block HD0.out)).trans HD0.out)
  have HB1 := Lib.hid (HB0.out.trans (hb1.mono HB0.out.size))
  clear hb1
  go_wp2_with fail
  refine (HNV.out _).mono ?_
  rintro e _ ⟨rfl, rfl⟩
  go_wp2_with (refine wpList_load_row rfl _ _ rfl w.heap.size rfl 28 (dsv 0 fmt len blk) (0, 0) _ HD1.out Tryd.underlying28 rfl (by rw [info_ds]; rfl) ?_)
  refine (HPK.out _ (h.below (HB1.out.mono hB)) (Nat.le_trans hB HB1.out.size)).mono ?_
  rintro e w2 hP
  obtain rfl := hP.bad rfl
  have HB2 := Lib.hid (HB1.out.trans (hP.bel.mono HB1.out.size))
  clear hP
  go_wp2
  go_ret2
  exact WPost.none 2 HB2.out

theorem rbuild_any (org fmt len blk n : Int) (w : World) (B : Nat) (a : Option Addr) (cap : Nat) (l : List By) (h : Strs w B a l) (hB : B ≤ w.heap.size) (hl : l.length ≤ 900) :
    Calls Tryd.prog 14 #[.agg (dsv org fmt len blk), .int .i64 n, .slice a l.length cap] w fun e w' => WPost w (buildRes org fmt len blk n l).1 (buildRes org fmt len blk n l).2 e w' := by
  cases hd : dsV org fmt len blk
  · have e : buildRes org fmt len blk n l = ([], 1) := by unfold buildRes; rw [if_neg (by rw [hd]; simp)]
    rw [e]; exact rbuildBad_any org fmt len blk n w _ (Or.inl hd)
  · cases hn : numV n
    · have e : buildRes org fmt len blk n l = ([], 1) := by unfold buildRes; rw [if_neg (by rw [hn]; simp)]
      rw [e]; exact rbuildBad_any org fmt len blk n w _ (Or.inr ⟨hd, hn⟩)
    · obtain ⟨rfl, h1, h2⟩ := ds_pos hd
      obtain ⟨len', rfl⟩ := Int.eq_ofNat_of_zero_le h1
      obtain ⟨blk', rfl⟩ := Int.eq_ofNat_of_zero_le h2
      obtain ⟨n', rfl⟩ := Int.eq_ofNat_of_zero_le (show 0 ≤ n by have := hn; simp [numV] at this; omega)
      cases ha : alwV fmt len' l
      · have e : buildRes 0 fmt len' blk' n' l = ([], 2) := by unfold buildRes; rw [if_pos ⟨hd, hn⟩, if_neg (by rw [ha]; simp)]
        rw [e]; exact rbuildNot_any fmt len' blk' n' w B a cap l h hB hl hd hn ha
      · have e : buildRes 0 fmt len' blk' n' l = (writesOf n' l.length (streamOf (packV fmt len' blk' l)), 0) := by unfold buildRes; rw [if_pos ⟨hd, hn⟩, if_pos ha]; rfl
        rw [e]
        exact rbuildOk_any fmt len' blk' n' w B a cap l h hB hl hd hn ha
end

section
open Go.RowKit Go.Sort

/-- Writes in memory. -/
structure Wrs (w : World) (a : Option Addr) (l : List (Nat × By)) : Prop where
  cells : l ≠ [] → ∃ b, a = some ⟨b, 0, none⟩ ∧ ∀ i (h : i < l.length), w.cell? ⟨b, i * 2, none⟩ = some (.int .i64 l[i].1) ∧ w.cell? ⟨b, i * 2 + 1, none⟩ = some (.string ⟨l[i].2.toArray⟩)
theorem Wrs.get {w : World} {a : Option Addr} {l : List (Nat × By)} (h : Wrs w a l) {i : Nat} (hi : i < l.length) : ∃ b, a = some ⟨b, 0, none⟩ ∧ w.cell? ⟨b, i * 2, none⟩ = some (.int .i64 l[i].1) ∧ w.cell? ⟨b, i * 2 + 1, none⟩ = some (.string ⟨l[i].2.toArray⟩) := by
  obtain ⟨b, h1, h2⟩ := h.cells (fun e => by rw [e] at hi; simp at hi)
  exact ⟨b, h1, h2 i hi⟩
theorem wrs_of_row {w : World} {base : Nat} {e : TypeId} {v : Value} {l : List (Nat × By)} (h : w.ownsRow base e 2 v l.length (flatW l)) : ∃ a cap, v = .slice a l.length cap ∧ Wrs w a l := by
  rcases h.2 with ⟨rfl, hn⟩ | ⟨g, cap, cur, rfl, hbase, hblk, q1, q2, q3, q4⟩
  · have : l = [] := List.length_eq_zero_iff.1 hn
    subst this; exact ⟨none, 0, rfl, ⟨fun h => absurd rfl h⟩⟩
  · refine ⟨_, cap, rfl, ⟨fun _ => ⟨g, rfl, fun i hi => ?_⟩⟩⟩
    have hf := flatW_get l i hi
    rw [← q4, List.getElem?_take, if_pos (by omega), List.getElem?_take, if_pos (by omega)] at hf
    rw [cell_of_row w g _ cur e (0, 0) hblk, cell_of_row w g _ cur e (0, 0) hblk]
    exact ⟨by simpa using hf.1, by simpa [sv] using hf.2⟩

set_option maxRecDepth 100000 in
set_option maxHeartbeats 2000000 in
theorem same_any (w : World) (a b : Option Addr) (c d : Nat) (l m : List (Nat × By)) (ha : Wrs w a l) (hb : Wrs w b m) (hl : l.length ≤ 4000000000) (hm : m.length ≤ 4000000000) :
    Calls Tryd.prog 17 #[.slice a l.length c, .slice b m.length d] w fun e w' => e = .returned (.bool (decide (l = m))) ∧ Below w.heap.size w w' := by
  by_cases hlen : l.length = m.length
  · go_enter Tryd.func17, Tryd.ntmps17
    have hne : ((l.length : Int) != (m.length : Int)) = false := by rw [hlen]; simp
    have hne2 : (l.length != m.length) = false := by rw [hlen]; simp
    have HL := Lib.hid hlen
    clear hlen
    go_wp2_with fail
    go_loopw [5] (fun k wr => ∃ j : Nat, j ≤ l.length ∧ k = .int .i64 j ∧ Below w.heap.size w wr ∧ l.take j = m.take j) (fun k _ => l.length - (intOf k).toNat)
    case atStart => exact ⟨0, by omega, rfl, Below.refl _ _, rfl⟩
    case round =>
      obtain ⟨j, hj, rfl, hbw, hE⟩ := hrel
      have HBW := Lib.hid hbw
      by_cases hlt : j < l.length
      · obtain ⟨b1, rfl, x1, x2⟩ := ha.get hlt
        obtain ⟨b2, rfl, y1, y2⟩ := hb.get (HL.out ▸ hlt)
        have hltm : j < m.length := HL.out ▸ hlt
        replace x1 := (hbw.cell (block_lt_of_cell x1)).trans x1
        replace x2 := (hbw.cell (block_lt_of_cell x2)).trans x2
        replace y1 := (hbw.cell (block_lt_of_cell y1)).trans y1
        replace y2 := (hbw.cell (block_lt_of_cell y2)).trans y2
        clear hbw
        have HE := Lib.hid hE
        clear hE
        generalize hx : l[j] = x at x1 x2
        generalize hy : m[j] = y at y1 y2
        have HX := Lib.hid hx
        have HY := Lib.hid hy
        clear hx hy
        obtain ⟨xn, xd⟩ := x
        obtain ⟨yn, yd⟩ := y
        simp only at x1 x2 y1 y2
        by_cases h1 : xn = yn
        · subst h1
          by_cases h2 : xd = yd
          · subst h2
            have HN := Lib.hid (show l.take (j + 1) = m.take (j + 1) by rw [take_snoc' l j hlt, take_snoc' m j hltm, HE.out, HX.out, HY.out])
            go_wp2_with fail
            go_region
            go_wp2_with fail
            go_roundw
            case rel => exact ⟨j + 1, by omega, by go_num, below_drewN HBW.out 1, HN.out⟩
            case measure => simp [intOf]; omega
          · have H := Lib.hid (show decide (l = m) = false by
              rw [decide_eq_false_iff_not]; intro e; subst e
              exact h2 (Prod.mk.inj (HX.out.symm.trans HY.out)).2)
            go_wp2_with fail
            go_region
            go_wp2_with fail
            go_ret
            exact ⟨by rw [H.out]; rfl, by first | exact HBW.out | exact below_drewN HBW.out 1⟩
        · have H := Lib.hid (show decide (l = m) = false by
            rw [decide_eq_false_iff_not]; intro e; subst e
            exact h1 (Prod.mk.inj (HX.out.symm.trans HY.out)).1)
          have h1' : ¬ (xn : Int) = (yn : Int) := by omega
          go_wp2_with fail
          go_region
          go_wp2_with fail
          go_ret
          exact ⟨by rw [H.out]; rfl, by first | exact HBW.out | exact below_drewN HBW.out 1⟩
      · have H := Lib.hid (show decide (l = m) = true by
          rw [decide_eq_true_iff, ← List.take_of_length_le (show l.length ≤ j by omega), hE, List.take_of_length_le (by rw [← HL.out]; omega)])
        clear hE hbw
        go_wp2_with fail
        go_ret
        exact ⟨by rw [H.out]; rfl, by first | exact HBW.out | exact below_drewN HBW.out 1⟩
  · have H := Lib.hid (show decide (l = m) = false by rw [decide_eq_false_iff_not]; intro e; exact hlen (by rw [e]))
    have hne : ((l.length : Int) != (m.length : Int)) = true := by simp; omega
    have hne2 : (l.length != m.length) = true := by simp; omega
    clear hlen
    go_enter Tryd.func17, Tryd.ntmps17
    go_wp2_with fail
    go_ret
    exact ⟨by rw [H.out]; rfl, Below.refl _ _⟩
end

section
open Go.RowKit Go.Sort
attribute [local go_sem] ByteArray.mk_append_mk strOfNums_size ext_drop ext_take

theorem packV_nil (fmt : Int) (len blk : Nat) : packV fmt len blk [] = [] := by
  unfold packV; split
  · simp [fixA]
  · split <;> rfl
theorem buildRes_nil (org fmt len blk n : Int) : buildRes org fmt len blk n [] = if dsV org fmt len blk = true ∧ numV n = true then ([(0, headB n.toNat 0 0)], 0) else ([], 1) := by
  unfold buildRes
  split
  · have ha : alwV fmt len [] = true := rfl
    rw [if_pos ha, packV_nil]; rfl
  · rfl

set_option maxRecDepth 100000 in
set_option maxHeartbeats 1000000 in
theorem rformat_any (org fmt len blk n : Int) (w : World) :
    Calls Tryd.prog 12 #[.agg (dsv org fmt len blk), .int .i64 n] w fun e w' => WPost w (buildRes org fmt len blk n []).1 (buildRes org fmt len blk n []).2 e w' := by
  rw [buildRes_nil]
  have HV := Lib.hid (fun W => rvalid_any org fmt len blk W)
  have HNV := Lib.hid (rnum_valid n)
  have HD0 := Lib.hid (heap_alloc_new w (.cells (dsv org fmt len blk) 28))
  have HB0 := Lib.hid (box_below w (dsv org fmt len blk) 28)
  cases hd : dsV org fmt len blk
  · rw [if_neg (by simp)]
    rw [hd] at HV
    clear hd HNV
    go_enter Tryd.func12, Tryd.ntmps12
    go_wp2_with (refine wpList_load_row rfl _ _ rfl w.heap.size rfl 28 (dsv org fmt len blk) (0, 0) _ HD0.out Tryd.underlying28 rfl (by rw [info_ds]; rfl) ?_)
    refine (HV.out _).mono ?_
    rintro e w1 ⟨rfl, hb1⟩
    have HB1 := Lib.hid (HB0.out.trans (hb1.mono HB0.out.size))
    clear hb1
    go_wp2
    go_ret2
    exact WPost.none 1 HB1.out
  · cases hn : numV n
    · rw [if_neg (by simp)]
      rw [hd] at HV
      rw [hn] at HNV
      clear hd hn
      go_enter Tryd.func12, Tryd.ntmps12
      go_wp2_with (refine wpList_load_row rfl _ _ rfl w.heap.size rfl 28 (dsv org fmt len blk) (0, 0) _ HD0.out Tryd.underlying28 rfl (by rw [info_ds]; rfl) ?_)
      refine (HV.out _).mono ?_
      rintro e w1 ⟨rfl, hb1⟩
      have HB1 := Lib.hid (HB0.out.trans (hb1.mono HB0.out.size))
      clear hb1
      go_wp2_with fail
      refine (HNV.out _).mono ?_
      rintro e _ ⟨rfl, rfl⟩
      go_wp2
      go_ret2
      exact WPost.none 1 HB1.out
    · rw [if_pos ⟨rfl, rfl⟩]
      have hnb : 0 ≤ n ∧ n ≤ 1099511627776 := by simp [numV] at hn; omega
      obtain ⟨n', rfl⟩ := Int.eq_ofNat_of_zero_le hnb.1
      have hn2 : n' < 9223372036854775808 := by omega
      rw [hd] at HV
      rw [hn] at HNV
      have hhd : headB (n' : Int).toNat 0 0 = pad (num n' ++ num 0 ++ num 0) := rfl
      have HR := Lib.hid (fun W => rhead_any n' 0 0 W hn2 (by omega) (by omega))
      rw [← hhd] at HR
      generalize headB (n' : Int).toNat 0 0 = hd' at HR ⊢
      clear hd hn hnb hn2 hhd
      go_enter Tryd.func12, Tryd.ntmps12
      go_wp2_with (refine wpList_load_row rfl _ _ rfl w.heap.size rfl 28 (dsv org fmt len blk) (0, 0) _ HD0.out Tryd.underlying28 rfl (by rw [info_ds]; rfl) ?_)
      refine (HV.out _).mono ?_
      rintro e w1 ⟨rfl, hb1⟩
      have HB1 := Lib.hid (HB0.out.trans (hb1.mono HB0.out.size))
      clear hb1
      go_wp2_with fail
      refine (HNV.out _).mono ?_
      rintro e _ ⟨rfl, rfl⟩
      go_wp2_with fail
      refine (HR.out _).mono ?_
      rintro e w2 ⟨rfl, hb2⟩
      have HB2 := Lib.hid (HB1.out.trans (hb2.mono HB1.out.size))
      clear hb2
      go_wp2
      go_ret2
      exact ⟨⟨_, rfl, World.ownsRow_lit (base := w.heap.size) (e := 46) (size := 2) w2 #[.int .i64 (0 : Nat), .string ⟨hd'.toArray⟩] 1 HB2.out.size (by simp [maxLen]) rfl⟩, HB2.out.alloc HB2.out.size _⟩

theorem awake_res : buildRes 0 0 3 6 9 [[97, 98, 99], [100, 101, 102]] = ([(0, [9, 2, 8] ++ zeros 125), (1, [6, 0, 97, 98, 99, 100, 101, 102] ++ zeros 120)], 0) := by decide +kernel

set_option maxRecDepth 100000 in
set_option maxHeartbeats 2000000 in
theorem awake_any (w : World) (hc0 : Codes w) :
    Calls Tryd.prog 8 #[] w fun e w' => e = .returned (.bool true) ∧ Below w.heap.size w w' := by
  have HBD := Lib.hid (fun W B a h b1 b2 => build_any 0 0 3 6 9 W B a 2 [[97, 98, 99], [100, 101, 102]] h b1 (by simp) (by simp) (by omega) b2)
  rw [awake_res] at HBD
  obtain ⟨d0, hd0⟩ : ∃ d0 : By, d0 = [9, 2, 8] ++ zeros 125 := ⟨_, rfl⟩
  obtain ⟨d1, hd1⟩ : ∃ d1 : By, d1 = [6, 0, 97, 98, 99, 100, 101, 102] ++ zeros 120 := ⟨_, rfl⟩
  have l0 : d0.length = 128 := by rw [hd0]; rfl
  have l1 : d1.length = 128 := by rw [hd1]; rfl
  have t0 : d0.take 4 = [9, 2, 8, 0] := by rw [hd0]; rfl
  have t1 : d1.take 9 = [6, 0, 97, 98, 99, 100, 101, 102, 0] := by rw [hd1]; rfl
  rw [← hd0, ← hd1] at HBD
  clear hd0 hd1
  have hsr : ∀ W : World, Strs (W.alloc (.cells #[.string ⟨#[97, 98, 99]⟩, .string ⟨#[100, 101, 102]⟩] 9)) (W.heap.size + 1) (some ⟨W.heap.size, 0, none⟩) [[97, 98, 99], [100, 101, 102]] := fun W =>
    ⟨fun _ => ⟨_, _, rfl, by omega, fun i hi => by
      have hi : i < 2 := hi
      have h4 : i = 0 ∨ i = 1 := by omega
      rcases h4 with rfl | rfl
      · exact cell_at (heap_alloc_new W _) rfl
      · exact cell_at (heap_alloc_new W _) rfl⟩⟩
  have HSR := Lib.hid hsr
  clear hsr
  go_enter Tryd.func8, Tryd.ntmps8
  go_wp2_with fail
  refine (set_any _ _ _ _ _).mono ?_
  rintro e w1 ⟨rfl, hb1⟩
  have HB1 := Lib.hid hb1
  clear hb1
  go_wp2_with fail
  refine (HBD.out _ (w1.heap.size + 1) _ (HSR.out _) (by simp) (hc0.below (HB1.out.alloc HB1.out.size _) hc0.pos)).mono ?_
  rintro e w2 hP
  obtain ⟨v, rfl, ho⟩ := hP.out
  obtain ⟨va, vc, rfl, hW⟩ := wrs_of_row ho
  obtain ⟨b, rfl, c0, c1⟩ := hW.get (i := 0) (by simp)
  obtain ⟨b', hb', c2, c3⟩ := hW.get (i := 1) (by simp)
  obtain rfl : b = b' := by simpa using hb'
  have HB2 := Lib.hid ((HB1.out.alloc HB1.out.size _).trans (hP.bel.mono (HB1.out.alloc HB1.out.size _).size))
  clear hb' hP ho hW
  simp only [List.getElem_cons_zero, List.getElem_cons_succ] at c0 c1 c2 c3
  go_wp2_with fail
  go_ret
  exact ⟨rfl, HB2.out⟩
end

section
open Go.RowKit Go.Sort
attribute [local go_sem ↓] loadDs_down

theorem Wrs.below {w w' : World} {a : Option Addr} {l : List (Nat × By)} (h : Wrs w a l) (hb : Below w.heap.size w w') : Wrs w' a l :=
  ⟨fun hl => by
    obtain ⟨b, h1, h2⟩ := h.cells hl
    exact ⟨b, h1, fun i hi => ⟨(hb.cell (block_lt_of_cell (h2 i hi).1)).trans (h2 i hi).1, (hb.cell (block_lt_of_cell (h2 i hi).2)).trans (h2 i hi).2⟩⟩⟩
theorem buildRes_length (org fmt len blk n : Int) (l : List By) (hl : l.length ≤ 900) : (buildRes org fmt len blk n l).1.length ≤ 1000000001 := by
  unfold buildRes
  split
  · rename_i h
    split
    · rename_i ha
      obtain ⟨rfl, h1, h2⟩ := ds_pos h.1
      obtain ⟨len', rfl⟩ := Int.eq_ofNat_of_zero_le h1
      obtain ⟨blk', rfl⟩ := Int.eq_ofNat_of_zero_le h2
      have hb := (packV_bd fmt len' blk' l h.1 ha hl).all
      simp only [Int.toNat_natCast]
      generalize streamOf (packV fmt len' blk' l) = S at hb ⊢
      have := secA_le S.length S
      show ((0, _) :: wr1 1 (secA S.length S)).length ≤ _
      rw [List.length_cons, wr1_length]; omega
    · simp
  · simp
theorem few_len {l : List By} {n k : Nat} (h : fewV l n k = true) : l.length ≤ n := by
  unfold fewV at h; rw [Bool.and_eq_true] at h; simpa using h.2

set_option maxRecDepth 100000 in
set_option maxHeartbeats 4000000 in
theorem law_few (org fmt len blk n : Int) (w : World) (B : Nat) (a : Option Addr) (cap : Nat) (l : List By) (h : Strs w B a l) (hB : B ≤ w.heap.size) (hl : l.length ≤ 9223372036854775807) (hc0 : Codes w) (hf : fewV l 30 1100 = false) :
    Calls Tryd.prog 3 #[.agg #[.int .i64 org, .int .i64 fmt, .int .i64 len, .int .i64 blk], .int .i64 n, .slice a l.length cap] w fun e w' => e = .returned (.bool true) ∧ Below w.heap.size w w' := by
  have HB0 := Lib.hid (box_below w #[.int .i64 org, .int .i64 fmt, .int .i64 len, .int .i64 blk] 23)
  have HF := Lib.hid (fun W h' => few_any W B a cap l 30 1100 h' hl)
  rw [hf] at HF
  clear hf
  go_enter Tryd.func3, Tryd.ntmps3
  go_wp2_with fail
  refine (awake_any _ (hc0.below HB0.out hc0.pos)).mono ?_
  rintro e w1 ⟨rfl, hb1⟩
  have HB1 := Lib.hid (HB0.out.trans (hb1.mono HB0.out.size))
  clear hb1
  go_wp2_with fail
  refine (HF.out _ (h.below (HB1.out.mono hB))).mono ?_
  rintro e _ ⟨rfl, rfl⟩
  go_wp2_with fail
  refine (awake_any _ (hc0.below HB1.out hc0.pos)).mono ?_
  rintro e w2 ⟨rfl, hb2⟩
  have HB2 := Lib.hid (HB1.out.trans (hb2.mono HB1.out.size))
  clear hb2
  go_wp2_with fail
  go_ret
  exact ⟨rfl, HB2.out⟩

set_option maxRecDepth 100000 in
set_option maxHeartbeats 8000000 in
theorem law_all (org fmt len blk n : Int) (w : World) (B : Nat) (a : Option Addr) (cap : Nat) (l : List By) (h : Strs w B a l) (hB : B ≤ w.heap.size) (hcap : l.length ≤ cap) (hc63 : cap ≤ 9223372036854775807) (hc0 : Codes w) (hf : fewV l 30 1100 = true) :
    Calls Tryd.prog 3 #[.agg #[.int .i64 org, .int .i64 fmt, .int .i64 len, .int .i64 blk], .int .i64 n, .slice a l.length cap] w fun e w' => e = .returned (.bool true) ∧ Below w.heap.size w w' := by
  have hl := few_len hf
  have HB0 := Lib.hid (box_below w #[.int .i64 org, .int .i64 fmt, .int .i64 len, .int .i64 blk] 23)
  have HF := Lib.hid (fun W h' => few_any W B a cap l 30 1100 h' (by omega))
  rw [hf] at HF
  clear hf
  have HFM := Lib.hid (fun W hc => format_any org fmt len blk n W hc)
  have HFR := Lib.hid (fun W => rformat_any org fmt len blk n W)
  have HBD := Lib.hid (fun W h1 h2 h3 => build_any org fmt len blk n W B a cap l h1 h2 (by omega) hcap hc63 h3)
  have HBR := Lib.hid (fun W h1 h2 => rbuild_any org fmt len blk n W B a cap l h1 h2 (by omega))
  have HL1 := buildRes_length org fmt len blk n [] (by simp)
  have HL2 := buildRes_length org fmt len blk n l (by omega)
  generalize buildRes org fmt len blk n [] = R1 at HFM HFR HL1
  generalize buildRes org fmt len blk n l = R2 at HBD HBR HL2
  obtain ⟨ws1, k1⟩ := R1
  obtain ⟨ws2, k2⟩ := R2
  simp only at HL1 HL2 HFM HFR HBD HBR
  have HV := Lib.hid (fun W => valid_any org fmt len blk W)
  have HVR := Lib.hid (fun W => rvalid_any org fmt len blk W)
  generalize dsV org fmt len blk = q at HV HVR
  have H1 := Lib.hid (show (dsv org fmt len blk).all (·.oneCell') = true by simp [dsv, Value.oneCell'])
  have hsz : (dsv org fmt len blk).size = 21 := rfl
  have HSZ := Lib.hid hsz
  clear hsz
  go_enter Tryd.func3, Tryd.ntmps3
  go_wp2_with fail
  refine (awake_any _ (hc0.below HB0.out hc0.pos)).mono ?_
  rintro e w1 ⟨rfl, hb1⟩
  have HB1 := Lib.hid (HB0.out.trans (hb1.mono HB0.out.size))
  have HX1 := Lib.hid ((hb1.block w.heap.size (by simp)).trans (heap_alloc_new w (.cells #[.int .i64 org, .int .i64 fmt, .int .i64 len, .int .i64 blk] 23)))
  clear hb1
  go_wp2_with fail
  refine (HF.out _ (h.below (HB1.out.mono hB))).mono ?_
  rintro e _ ⟨rfl, rfl⟩
  have x0 := cell_at (i := 0) (v := .int .i64 org) HX1.out rfl
  have x1 := cell_at (i := 1) (v := .int .i64 fmt) HX1.out rfl
  have x2 := cell_at (i := 2) (v := .int .i64 len) HX1.out rfl
  have x3 := cell_at (i := 3) (v := .int .i64 blk) HX1.out rfl
  go_wp2_with fail
  refine (set_any _ _ _ _ _).mono ?_
  rintro e w2 ⟨rfl, hb2⟩
  have HB2 := Lib.hid (HB1.out.trans (hb2.mono HB1.out.size))
  clear hb2 x0 x1 x2 x3 HX1
  obtain ⟨W3, hW3⟩ : ∃ W3, W3 = (w2.alloc (.cells dsz 28)).setRow w2.heap.size (dsv org fmt len blk) := ⟨_, rfl⟩
  have hd3 : W3.heap[w2.heap.size]? = some (.cells (dsv org fmt len blk) 28 (0, 0)) := by rw [hW3]; exact setRow_heap _ _ _ _ _ _ (heap_alloc_new _ _)
  have HB3 := Lib.hid (show Below w.heap.size w W3 by rw [hW3]; exact Below.setRow (HB2.out.alloc HB2.out.size _) HB2.out.size _)
  have HD3 := Lib.hid hd3
  have HW3 := Lib.hid hW3
  clear hd3 hW3
  have dl3 := loadDs_at HD3.out rfl
  go_wp2_with (
    refine wpList_store_rowTo rfl _ _ _ rfl rfl w2.heap.size (dsv org fmt len blk) rfl rfl 28 dsz (heap_alloc_new _ _) (by rw [info_ds, HSZ.out]) (by rw [HSZ.out]; rfl) H1.out ?_
    rw [← HW3.out])
  refine (HFM.out _ (hc0.below HB3.out hc0.pos)).mono ?_
  rintro e w4 hP
  obtain ⟨v4, rfl, ho4⟩ := hP.out
  obtain ⟨a4, c4, rfl, hS4⟩ := wrs_of_row ho4
  have HB4 := Lib.hid (HB3.out.trans (hP.bel.mono HB3.out.size))
  have HD4 := Lib.hid ((hP.bel.block w2.heap.size (lt_of_block HD3.out)).trans HD3.out)
  clear hP ho4 dl3
  have HS4 := Lib.hid hS4
  clear hS4
  have dl4 := loadDs_at HD4.out rfl
  go_wp2_with fail
  refine (HFR.out _).mono ?_
  rintro e w5 hP
  obtain ⟨v5, rfl, ho5⟩ := hP.out
  obtain ⟨a5, c5, rfl, hS5⟩ := wrs_of_row ho5
  have HB5 := Lib.hid (HB4.out.trans (hP.bel.mono HB4.out.size))
  have HS45 := Lib.hid (HS4.out.below hP.bel)
  have HD5 := Lib.hid ((hP.bel.block w2.heap.size (lt_of_block HD4.out)).trans HD4.out)
  have HS5 := Lib.hid hS5
  clear hP ho5 dl4 hS5
  have dl5 := loadDs_at HD5.out rfl
  go_wp2_with fail
  refine (HBD.out _ (h.below (HB5.out.mono hB)) (Nat.le_trans hB HB5.out.size) (hc0.below HB5.out hc0.pos)).mono ?_
  rintro e w6 hP
  obtain ⟨v6, rfl, ho6⟩ := hP.out
  obtain ⟨a6, c6, rfl, hS6⟩ := wrs_of_row ho6
  have HB6 := Lib.hid (HB5.out.trans (hP.bel.mono HB5.out.size))
  have HS46 := Lib.hid (HS45.out.below hP.bel)
  have HS56 := Lib.hid (HS5.out.below hP.bel)
  have HD6 := Lib.hid ((hP.bel.block w2.heap.size (lt_of_block HD5.out)).trans HD5.out)
  have HS6 := Lib.hid hS6
  clear hP ho6 dl5 hS6
  have dl6 := loadDs_at HD6.out rfl
  go_wp2_with fail
  refine (HBR.out _ (h.below (HB6.out.mono hB)) (Nat.le_trans hB HB6.out.size)).mono ?_
  rintro e w7 hP
  obtain ⟨v7, rfl, ho7⟩ := hP.out
  obtain ⟨a7, c7, rfl, hS7⟩ := wrs_of_row ho7
  have HB7 := Lib.hid (HB6.out.trans (hP.bel.mono HB6.out.size))
  have HS47 := Lib.hid (HS46.out.below hP.bel)
  have HS57 := Lib.hid (HS56.out.below hP.bel)
  have HS67 := Lib.hid (HS6.out.below hP.bel)
  have HD7 := Lib.hid ((hP.bel.block w2.heap.size (lt_of_block HD6.out)).trans HD6.out)
  have HS7 := Lib.hid hS7
  clear hP ho7 dl6 hS7
  have dl7 := loadDs_at HD7.out rfl
  have dl7d : (loadDs ⟨w2.heap.size, 0, none⟩).run Tryd.prog w7.drew = .ok (.agg (dsv org fmt len blk)) w7.drew := loadDs_at (w := w7.drew) HD7.out rfl
  have hbc : Below w7.heap.size w7 w7.drew := below_drew1
  have HSA := Lib.hid (fun (W : World) (hb : Below w7.heap.size w7 W) => same_any W a4 a5 c4 c5 ws1 ws1 (HS47.out.below hb) (HS57.out.below hb) (by omega) (by omega))
  have HSB := Lib.hid (fun (W : World) (hb : Below w7.heap.size w7 W) => same_any W a6 a7 c6 c7 ws2 ws2 (HS67.out.below hb) (HS7.out.below hb) (by omega) (by omega))
  rw [show decide (ws1 = ws1) = true by simp] at HSA
  rw [show decide (ws2 = ws2) = true by simp] at HSB
  go_wp2_with fail
  go_region_held3 (fun w' => (loadDs ⟨w2.heap.size, 0, none⟩).run Tryd.prog w' = .ok (.agg (dsv org fmt len blk)) w') (first | assumption)
    ((first
      | (go_at_call 15
         (with_reducible refine (HV.out _).mono ?_)
         rintro e wx ⟨rfl, hx⟩
         have hbc := hbc.trans (hx.mono hbc.size)
         have dlx := loadDs_at ((hbc.block w2.heap.size (lt_of_block HD7.out)).trans HD7.out) rfl)
      | (go_at_call 16
         (with_reducible refine (HVR.out _).mono ?_)
         rintro e wy ⟨rfl, hy⟩
         have hbc := hbc.trans (hy.mono hbc.size)
         have dly := loadDs_at ((hbc.block w2.heap.size (lt_of_block HD7.out)).trans HD7.out) rfl)
      | (go_at_call 17
         (with_reducible refine (HSA.out _ (by assumption)).mono ?_)
         rintro e wz ⟨rfl, hz⟩
         have hbc := hbc.trans (hz.mono hbc.size)
         have dlz := loadDs_at ((hbc.block w2.heap.size (lt_of_block HD7.out)).trans HD7.out) rfl)
      | (go_at_call 17
         (with_reducible refine (HSB.out _ (by assumption)).mono ?_)
         rintro e wz ⟨rfl, hz⟩
         have hbc := hbc.trans (hz.mono hbc.size)
         have dlz := loadDs_at ((hbc.block w2.heap.size (lt_of_block HD7.out)).trans HD7.out) rfl)))
  all_goals
    have HBF := Lib.hid (HB7.out.trans (hbc.mono HB7.out.size))
    clear hbc
    go_wp2_with fail
    go_ret
    exact ⟨rfl, HBF.out⟩

theorem law_any (org fmt len blk n : Int) (w : World) (B : Nat) (a : Option Addr) (cap : Nat) (l : List By) (h : Strs w B a l) (hB : B ≤ w.heap.size) (hcap : l.length ≤ cap) (hc63 : cap ≤ 9223372036854775807) (hc0 : Codes w) :
    Calls Tryd.prog 3 #[.agg #[.int .i64 org, .int .i64 fmt, .int .i64 len, .int .i64 blk], .int .i64 n, .slice a l.length cap] w fun e w' => e = .returned (.bool true) ∧ Below w.heap.size w w' := by
  cases hf : fewV l 30 1100
  · exact law_few org fmt len blk n w B a cap l h hB (by omega) hc0 hf
  · exact law_all org fmt len blk n w B a cap l h hB hcap (by omega) hc0 hf
end

end Go.Proofs.YthkpcalopmddpaaDoor

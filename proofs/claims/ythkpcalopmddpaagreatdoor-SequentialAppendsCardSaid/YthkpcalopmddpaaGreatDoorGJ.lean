/-
  Walks: Build and Format, by the reference. Condition: at most 900 records.
  Walks: whether two lists of writes are the same.
  Walks: Format, by the reference; the example of the chapter.
  Plain: writes behind calls; lengths. No condition.
-/
import Derived.Test.YthkpcalopmddpaaGreatDoorGE
import Derived.Test.YthkpcalopmddpaaGreatDoorM19
import Derived.Test.YthkpcalopmddpaaGreatDoorGI
import Derived.Test.YthkpcalopmddpaaGreatDoorGF
namespace Go.Proofs.YthkpcalopmddpaaGreatDoor

section
open Go.RowKit Go.Sort

set_option maxRecDepth 100000 in
set_option maxHeartbeats 4000000 in
theorem rbuildOk_any (fmt : Int) (len blk n : Nat) (w : World) (B : Nat) (a : Option Addr) (cap : Nat) (l : List By) (h : Strs w B a l) (hB : B ≤ w.heap.size) (hl : l.length ≤ 40000) (hfw : (packV fmt len blk l).length ≤ 10000000) (hsm : ∀ x ∈ packV fmt len blk l, x.length ≤ 1024) (hall : (streamOf (packV fmt len blk l)).length ≤ 1000000000) (hd : dsV 0 fmt len blk = true) (hn : numV n = true) (ha : alwV fmt len l = true) :
    Calls Tryz.prog 47 #[.agg (dsv 0 fmt len blk), .int .i64 n, .slice a l.length cap] w fun e w' => WPost w (writesOf n l.length (streamOf (packV fmt len blk l))) 0 e w' := by
  have hnn : n ≤ 1099511627776 := by simp [numV] at hn; omega
  obtain ⟨i0, hi0, hz0, hz1, hz2⟩ := info_parts infoW
  have HV := Lib.hid (fun W => rvalid_any 0 fmt len blk W)
  have HPK := Lib.hid (fun W b1 b2 => rpack_any fmt len blk W B a cap l b1 b2 hl hd)
  have HNV := Lib.hid (rnum_valid (n : Int))
  rw [hd] at HV
  rw [ha] at HPK
  rw [hn] at HNV
  clear hd ha hn
  generalize packV fmt len blk l = V at hfw hsm hall HPK ⊢
  have hvl := hfw
  have HSM := Lib.hid hsm
  have HST := Lib.hid (fun W BB aa cc h1 h2 => rstream_many W BB aa cc V h1 h2 (Nat.le_trans hvl (by omega)) hall (fun r hr => Nat.le_trans (HSM.out r hr) (by omega)))
  generalize streamOf V = S at hall HST ⊢
  have hsl := secA_le S.length S
  have HC := Lib.hid (fun W => rcut_any S W hall)
  rw [show secB S.length S 0 = secA S.length S by rw [secB_eq]; rfl] at HC
  have HD0 := Lib.hid (heap_alloc_new w (.cells (dsv 0 fmt len blk) 29))
  have HB0 := Lib.hid (box_below w (dsv 0 fmt len blk) 29)
  clear hsm
  go_enter Tryz.func47, Tryz.ntmps47
  go_wp2_with (refine wpList_load_row rfl _ _ rfl w.heap.size rfl 29 (dsv 0 fmt len blk) (0, 0) _ HD0.out Tryz.underlying29 rfl (by rw [info_ds]; rfl) ?_)
  refine (HV.out _).mono ?_
  rintro e w1 ⟨rfl, hb1⟩
  have HD1 := Lib.hid ((hb1.block w.heap.size (lt_of_block HD0.out)).trans HD0.out)
  have HB1 := Lib.hid (HB0.out.trans (hb1.mono HB0.out.size))
  clear hb1
  go_wp2_with fail
  refine (HNV.out _).mono ?_
  rintro e _ ⟨rfl, rfl⟩
  go_wp2_with (refine wpList_load_row rfl _ _ rfl w.heap.size rfl 29 (dsv 0 fmt len blk) (0, 0) _ HD1.out Tryz.underlying29 rfl (by rw [info_ds]; rfl) ?_)
  refine (HPK.out _ (h.below (HB1.out.mono hB)) (Nat.le_trans hB HB1.out.size)).mono ?_
  rintro e w2 hP
  obtain ⟨v, rfl, hov⟩ := hP.good rfl
  obtain ⟨va, vc, rfl, _, hVS⟩ := newsAt_of_row hov
  have HB2 := Lib.hid (HB1.out.trans (hP.bel.mono HB1.out.size))
  clear hP hov
  go_wp2_with fail
  refine (HST.out _ _ va vc hVS (Nat.le_refl _)).mono ?_
  rintro e w3 ⟨rfl, hb3⟩
  have HB3 := Lib.hid (HB2.out.trans (hb3.mono HB2.out.size))
  clear hb3 hVS
  go_wp2_with fail
  refine (rhead_any n l.length S.length _ (by omega) (by omega) (by omega)).mono ?_
  rintro e w5 ⟨rfl, hb5⟩
  have HB5 := Lib.hid (HB3.out.trans (hb5.mono HB3.out.size))
  clear hb5
  have hhd : pad (num n ++ num l.length ++ num S.length) = headB n l.length S.length := rfl
  rw [hhd]
  have hT : writesOf n l.length S = (0, headB n l.length S.length) :: wr1 1 (secA S.length S) := rfl
  generalize headB n l.length S.length = hd at hT
  have HT := Lib.hid hT
  clear hT hhd
  go_wp2_with fail
  refine (HC.out _).mono ?_
  rintro e w6 ⟨v6, rfl, ho6, hb6⟩
  generalize secA S.length S = T at hsl ho6 HT
  obtain ⟨sa, sc, rfl, hT6⟩ := strsIn_of_row ho6
  have hlit : (w5.alloc (.cells #[.int .i64 (0 : Nat), .string ⟨hd.toArray⟩] 59)).ownsRow w.heap.size 59 2 (.slice (some ⟨w5.heap.size, 0, none⟩) 1 1) 1 (flatW [(0, hd)]) :=
    World.ownsRow_lit (base := w.heap.size) (e := 59) (size := 2) w5 #[.int .i64 (0 : Nat), .string ⟨hd.toArray⟩] 1 HB5.out.size (by simp [maxLen]) rfl
  have HS := Lib.hid (show BdSt w6 w5.heap.size w.heap.size w6 ([(0, hd)] ++ wr1 1 (T.take 0)) (.slice (some ⟨w5.heap.size, 0, none⟩) 1 1) from
    ⟨Only.refl _ _, own_below hlit hb6, fun k hk => Or.inl (Option.some.inj hk).symm⟩)
  have HB6 := Lib.hid ((HB5.out.alloc HB5.out.size (.cells #[.int .i64 (0 : Nat), .string ⟨hd.toArray⟩] 59)).trans (hb6.mono (HB5.out.alloc HB5.out.size _).size))
  have HT6 := Lib.hid hT6
  clear ho6 hb6 hT6 hlit
  go_wp2_with fail
  go_loopw [11, 13] (fun o k wr => ∃ j : Nat, j ≤ T.length ∧ k = .int .i64 j ∧ BdSt w6 w5.heap.size w.heap.size wr ([(0, hd)] ++ wr1 1 (T.take j)) o) (fun _ k _ => T.length - (intOf k).toNat)
  case atStart => exact ⟨0, by omega, rfl, HS.out⟩
  case round =>
    clear HS
    obtain ⟨j, hj, rfl, hS⟩ := hrel
    have HO := Lib.hid hS.own
    by_cases hlt : j < T.length
    · obtain ⟨b, rfl, hbl, hc⟩ := hS.text HT6.out (by simp) hlt
      have hnx := wr1_take T 1 j hlt
      generalize T[j] = d at hc hnx
      have HN := Lib.hid (show [(0, hd)] ++ wr1 1 (T.take (j + 1)) = ([(0, hd)] ++ wr1 1 (T.take j)) ++ [(1 + j, d)] by rw [hnx, List.append_assoc])
      have hll : ([(0, hd)] ++ wr1 1 (T.take j)).length ≤ 1000000001 := by rw [List.length_append, wr1_length, List.length_take]; simp; omega
      have HSS := Lib.hid hS
      clear hS hnx
      generalize [(0, hd)] ++ wr1 1 (T.take j) = ws at HO HN hll HSS
      have hown := HO.out
      go_wp2_with (at_builtin; go_must (refine wpList_append_own_at _ rfl _ _ 48 rfl w.heap.size 59 i0 (.agg #[.int .i64 0, .string ByteArray.empty]) 2 24 Tryz.underlying48 hi0 hz0 hz1 hz2 rfl (by decide) _ _ _ rfl (hown.alloc _) _ 1 1 [.int .i64 (1 + (j : Int)), .string ⟨d.toArray⟩] rfl rfl ?e11 ?e21 ?e31 ?e41 ?e51 ?_))
      case e11 => exact news_at (cs := #[.int .i64 (1 + (j : Int)), .string ⟨d.toArray⟩]) (heap_alloc_new _ _)
      case e21 => simp [Value.oneCell']
      case e31 => unfold maxLen; (try simp); omega
      case e41 => (try simp); omega
      case e51 => have := HSS.out.only.size; have := HB6.out.size; simp; omega
      intro v7 w7 ho7 hg7 _ hb7
      have HZ := Lib.hid (HSS.out.step (HSS.out.only.alloc _) (1 + j, d) (by simp) (by simpa [wrC, sv] using ho7) hg7 (by simpa using hb7))
      clear ho7 hg7 hb7 hown
      go_wp2_with fail
      go_roundw
      case rel => exact ⟨j + 1, by omega, by go_num, by rw [HN.out]; exact HZ.out⟩
      case measure => simp [intOf]; omega
    · have hTl : T.take j = T := List.take_of_length_le (by omega)
      rw [hTl] at hS
      have hbf : Below w.heap.size w wr := HB6.out.trans (hS.only.below HB6.out.size (fun k hk => by simp at hk; rw [hk]; exact HB5.out.size))
      have HZ := Lib.hid hS.own
      have HBf := Lib.hid hbf
      clear hS hbf hTl HO
      go_wp2_with fail
      go_ret2
      rw [HT.out]
      exact ⟨⟨_, rfl, HZ.out⟩, HBf.out⟩

set_option maxRecDepth 100000 in
set_option maxHeartbeats 1000000 in
theorem rbuildBad_any (org fmt len blk n : Int) (w : World) (v : Value) (hd : dsV org fmt len blk = false ∨ (dsV org fmt len blk = true ∧ numV n = false)) :
    Calls Tryz.prog 47 #[.agg (dsv org fmt len blk), .int .i64 n, v] w fun e w' => WPost w [] 1 e w' := by
  have HV := Lib.hid (fun W => rvalid_any org fmt len blk W)
  have HNV := Lib.hid (rnum_valid n)
  have HD0 := Lib.hid (heap_alloc_new w (.cells (dsv org fmt len blk) 29))
  have HB0 := Lib.hid (box_below w (dsv org fmt len blk) 29)
  rcases hd with hd | ⟨hd, hn⟩
  · rw [hd] at HV
    clear hd HNV
    go_enter Tryz.func47, Tryz.ntmps47
    go_wp2_with (refine wpList_load_row rfl _ _ rfl w.heap.size rfl 29 (dsv org fmt len blk) (0, 0) _ HD0.out Tryz.underlying29 rfl (by rw [info_ds]; rfl) ?_)
    refine (HV.out _).mono ?_
    rintro e w1 ⟨rfl, hb1⟩
    have HB1 := Lib.hid (HB0.out.trans (hb1.mono HB0.out.size))
    clear hb1
    go_wp2
    go_ret2
    exact WPost.none 1 HB1.out
  · rw [hd] at HV
    rw [hn] at HNV
    clear hd hn
    go_enter Tryz.func47, Tryz.ntmps47
    go_wp2_with (refine wpList_load_row rfl _ _ rfl w.heap.size rfl 29 (dsv org fmt len blk) (0, 0) _ HD0.out Tryz.underlying29 rfl (by rw [info_ds]; rfl) ?_)
    refine (HV.out _).mono ?_
    rintro e w1 ⟨rfl, hb1⟩
    have HB1 := Lib.hid (HB0.out.trans (hb1.mono HB0.out.size))
    clear hb1
    go_wp2_with fail
    refine (HNV.out _).mono ?_
    rintro e _ ⟨rfl, rfl⟩
    go_wp2
    go_ret2
    exact WPost.none 1 HB1.out

set_option maxRecDepth 100000 in
set_option maxHeartbeats 1000000 in
theorem rbuildNot_any (fmt : Int) (len blk : Nat) (n : Int) (w : World) (B : Nat) (a : Option Addr) (cap : Nat) (l : List By) (h : Strs w B a l) (hB : B ≤ w.heap.size) (hl : l.length ≤ 40000) (hd : dsV 0 fmt len blk = true) (hn : numV n = true) (ha : alwV fmt len l = false) :
    Calls Tryz.prog 47 #[.agg (dsv 0 fmt len blk), .int .i64 n, .slice a l.length cap] w fun e w' => WPost w [] 2 e w' := by
  have HV := Lib.hid (fun W => rvalid_any 0 fmt len blk W)
  have HNV := Lib.hid (rnum_valid n)
  have HPK := Lib.hid (fun W b1 b2 => rpack_any fmt len blk W B a cap l b1 b2 hl hd)
  have HD0 := Lib.hid (heap_alloc_new w (.cells (dsv 0 fmt len blk) 29))
  have HB0 := Lib.hid (box_below w (dsv 0 fmt len blk) 29)
  rw [hd] at HV
  rw [hn] at HNV
  rw [ha] at HPK
  clear hd hn ha
  go_enter Tryz.func47, Tryz.ntmps47
  go_wp2_with (refine wpList_load_row rfl _ _ rfl w.heap.size rfl 29 (dsv 0 fmt len blk) (0, 0) _ HD0.out Tryz.underlying29 rfl (by rw [info_ds]; rfl) ?_)
  refine (HV.out _).mono ?_
  rintro e w1 ⟨rfl, hb1⟩
  have HD1 := Lib.hid ((hb1.block w.heap.size (lt_of_block HD0.out)).trans HD0.out)
  have HB1 := Lib.hid (HB0.out.trans (hb1.mono HB0.out.size))
  clear hb1
  go_wp2_with fail
  refine (HNV.out _).mono ?_
  rintro e _ ⟨rfl, rfl⟩
  go_wp2_with (refine wpList_load_row rfl _ _ rfl w.heap.size rfl 29 (dsv 0 fmt len blk) (0, 0) _ HD1.out Tryz.underlying29 rfl (by rw [info_ds]; rfl) ?_)
  refine (HPK.out _ (h.below (HB1.out.mono hB)) (Nat.le_trans hB HB1.out.size)).mono ?_
  rintro e w2 hP
  obtain rfl := hP.bad rfl
  have HB2 := Lib.hid (HB1.out.trans (hP.bel.mono HB1.out.size))
  clear hP
  go_wp2
  go_ret2
  exact WPost.none 2 HB2.out

theorem rbuild_any (org fmt len blk n : Int) (w : World) (B : Nat) (a : Option Addr) (cap : Nat) (l : List By) (h : Strs w B a l) (hB : B ≤ w.heap.size) (hl : l.length ≤ 900) :
    Calls Tryz.prog 47 #[.agg (dsv org fmt len blk), .int .i64 n, .slice a l.length cap] w fun e w' => WPost w (buildRes org fmt len blk n l).1 (buildRes org fmt len blk n l).2 e w' := by
  cases hd : dsV org fmt len blk
  · have e : buildRes org fmt len blk n l = ([], 1) := by unfold buildRes; rw [if_neg (by rw [hd]; simp)]
    rw [e]; exact rbuildBad_any org fmt len blk n w _ (Or.inl hd)
  · cases hn : numV n
    · have e : buildRes org fmt len blk n l = ([], 1) := by unfold buildRes; rw [if_neg (by rw [hn]; simp)]
      rw [e]; exact rbuildBad_any org fmt len blk n w _ (Or.inr ⟨hd, hn⟩)
    · obtain ⟨rfl, h1, h2⟩ := ds_pos hd
      obtain ⟨len', rfl⟩ := Int.eq_ofNat_of_zero_le h1
      obtain ⟨blk', rfl⟩ := Int.eq_ofNat_of_zero_le h2
      obtain ⟨n', rfl⟩ := Int.eq_ofNat_of_zero_le (show 0 ≤ n by have := hn; simp [numV] at this; omega)
      cases ha : alwV fmt len' l
      · have e : buildRes 0 fmt len' blk' n' l = ([], 2) := by unfold buildRes; rw [if_pos ⟨hd, hn⟩, if_neg (by rw [ha]; simp)]
        rw [e]; exact rbuildNot_any fmt len' blk' n' w B a cap l h hB (by omega) hd hn ha
      · have e : buildRes 0 fmt len' blk' n' l = (writesOf n' l.length (streamOf (packV fmt len' blk' l)), 0) := by unfold buildRes; rw [if_pos ⟨hd, hn⟩, if_pos ha]; rfl
        rw [e]
        have hbd := packV_bd fmt len' blk' l hd ha hl
        exact rbuildOk_any fmt len' blk' n' w B a cap l h hB (by omega) (Nat.le_trans hbd.few (by omega)) hbd.sml hbd.all hd hn ha
end

section
open Go.RowKit Go.Sort

/-- Writes in memory. -/
structure Wrs (w : World) (a : Option Addr) (l : List (Nat × By)) : Prop where
  cells : l ≠ [] → ∃ b, a = some ⟨b, 0, none⟩ ∧ ∀ i (h : i < l.length), w.cell? ⟨b, i * 2, none⟩ = some (.int .i64 l[i].1) ∧ w.cell? ⟨b, i * 2 + 1, none⟩ = some (.string ⟨l[i].2.toArray⟩)
theorem Wrs.get {w : World} {a : Option Addr} {l : List (Nat × By)} (h : Wrs w a l) {i : Nat} (hi : i < l.length) : ∃ b, a = some ⟨b, 0, none⟩ ∧ w.cell? ⟨b, i * 2, none⟩ = some (.int .i64 l[i].1) ∧ w.cell? ⟨b, i * 2 + 1, none⟩ = some (.string ⟨l[i].2.toArray⟩) := by
  obtain ⟨b, h1, h2⟩ := h.cells (fun e => by rw [e] at hi; simp at hi)
  exact ⟨b, h1, h2 i hi⟩
theorem wrs_of_row {w : World} {base : Nat} {e : TypeId} {v : Value} {l : List (Nat × By)} (h : w.ownsRow base e 2 v l.length (flatW l)) : ∃ a cap, v = .slice a l.length cap ∧ Wrs w a l := by
  rcases h.2 with ⟨rfl, hn⟩ | ⟨g, cap, cur, rfl, hbase, hblk, q1, q2, q3, q4⟩
  · have : l = [] := List.length_eq_zero_iff.1 hn
    subst this; exact ⟨none, 0, rfl, ⟨fun h => absurd rfl h⟩⟩
  · refine ⟨_, cap, rfl, ⟨fun _ => ⟨g, rfl, fun i hi => ?_⟩⟩⟩
    have hf := flatW_get l i hi
    rw [← q4, List.getElem?_take, if_pos (by omega), List.getElem?_take, if_pos (by omega)] at hf
    rw [cell_of_row w g _ cur e (0, 0) hblk, cell_of_row w g _ cur e (0, 0) hblk]
    exact ⟨by simpa using hf.1, by simpa [sv] using hf.2⟩

set_option maxRecDepth 100000 in
set_option maxHeartbeats 2000000 in
theorem same_any (w : World) (a b : Option Addr) (c d : Nat) (l m : List (Nat × By)) (ha : Wrs w a l) (hb : Wrs w b m) (hl : l.length ≤ 4000000000) (hm : m.length ≤ 4000000000) :
    Calls Tryz.prog 25 #[.slice a l.length c, .slice b m.length d] w fun e w' => e = .returned (.bool (decide (l = m))) ∧ Below w.heap.size w w' := by
  by_cases hlen : l.length = m.length
  · go_enter Tryz.func25, Tryz.ntmps25
    have hne : ((l.length : Int) != (m.length : Int)) = false := by rw [hlen]; simp
    have hne2 : (l.length != m.length) = false := by rw [hlen]; simp
    have HL := Lib.hid hlen
    clear hlen
    go_wp2_with fail
    go_loopw [5] (fun k wr => ∃ j : Nat, j ≤ l.length ∧ k = .int .i64 j ∧ Below w.heap.size w wr ∧ l.take j = m.take j) (fun k _ => l.length - (intOf k).toNat)
    case atStart => exact ⟨0, by omega, rfl, Below.refl _ _, rfl⟩
    case round =>
      obtain ⟨j, hj, rfl, hbw, hE⟩ := hrel
      have HBW := Lib.hid hbw
      by_cases hlt : j < l.length
      · obtain ⟨b1, rfl, x1, x2⟩ := ha.get hlt
        obtain ⟨b2, rfl, y1, y2⟩ := hb.get (HL.out ▸ hlt)
        have hltm : j < m.length := HL.out ▸ hlt
        replace x1 := (hbw.cell (block_lt_of_cell x1)).trans x1
        replace x2 := (hbw.cell (block_lt_of_cell x2)).trans x2
        replace y1 := (hbw.cell (block_lt_of_cell y1)).trans y1
        replace y2 := (hbw.cell (block_lt_of_cell y2)).trans y2
        clear hbw
        have HE := Lib.hid hE
        clear hE
        generalize hx : l[j] = x at x1 x2
        generalize hy : m[j] = y at y1 y2
        have HX := Lib.hid hx
        have HY := Lib.hid hy
        clear hx hy
        obtain ⟨xn, xd⟩ := x
        obtain ⟨yn, yd⟩ := y
        simp only at x1 x2 y1 y2
        by_cases h1 : xn = yn
        · subst h1
          by_cases h2 : xd = yd
          · subst h2
            have HN := Lib.hid (show l.take (j + 1) = m.take (j + 1) by rw [take_snoc' l j hlt, take_snoc' m j hltm, HE.out, HX.out, HY.out])
            go_wp2_with fail
            go_region
            go_wp2_with fail
            go_roundw
            case rel => exact ⟨j + 1, by omega, by go_num, below_drewN HBW.out 1, HN.out⟩
            case measure => simp [intOf]; omega
          · have H := Lib.hid (show decide (l = m) = false by
              rw [decide_eq_false_iff_not]; intro e; subst e
              exact h2 (Prod.mk.inj (HX.out.symm.trans HY.out)).2)
            go_wp2_with fail
            go_region
            go_wp2_with fail
            go_ret
            exact ⟨by rw [H.out]; rfl, by first | exact HBW.out | exact below_drewN HBW.out 1⟩
        · have H := Lib.hid (show decide (l = m) = false by
            rw [decide_eq_false_iff_not]; intro e; subst e
            exact h1 (Prod.mk.inj (HX.out.symm.trans HY.out)).1)
          have h1' : ¬ (xn : Int) = (yn : Int) := by omega
          go_wp2_with fail
          go_region
          go_wp2_with fail
          go_ret
          exact ⟨by rw [H.out]; rfl, by first | exact HBW.out | exact below_drewN HBW.out 1⟩
      · have H := Lib.hid (show decide (l = m) = true by
          rw [decide_eq_true_iff, ← List.take_of_length_le (show l.length ≤ j by omega), hE, List.take_of_length_le (by rw [← HL.out]; omega)])
        clear hE hbw
        go_wp2_with fail
        go_ret
        exact ⟨by rw [H.out]; rfl, by first | exact HBW.out | exact below_drewN HBW.out 1⟩
  · have H := Lib.hid (show decide (l = m) = false by rw [decide_eq_false_iff_not]; intro e; exact hlen (by rw [e]))
    have hne : ((l.length : Int) != (m.length : Int)) = true := by simp; omega
    have hne2 : (l.length != m.length) = true := by simp; omega
    clear hlen
    go_enter Tryz.func25, Tryz.ntmps25
    go_wp2_with fail
    go_ret
    exact ⟨by rw [H.out]; rfl, Below.refl _ _⟩
end

section
open Go.RowKit Go.Sort
attribute [local go_sem] ByteArray.mk_append_mk strOfNums_size ext_drop ext_take

theorem packV_nil (fmt : Int) (len blk : Nat) : packV fmt len blk [] = [] := by
  unfold packV; split
  · simp [fixA]
  · split <;> rfl
theorem buildRes_nil (org fmt len blk n : Int) : buildRes org fmt len blk n [] = if dsV org fmt len blk = true ∧ numV n = true then ([(0, headB n.toNat 0 0)], 0) else ([], 1) := by
  unfold buildRes
  split
  · have ha : alwV fmt len [] = true := rfl
    rw [if_pos ha, packV_nil]; rfl
  · rfl

theorem awake_res : buildRes 0 0 3 6 9 [[97, 98, 99], [100, 101, 102]] = ([(0, [9, 2, 8] ++ zeros 125), (1, [6, 0, 97, 98, 99, 100, 101, 102] ++ zeros 120)], 0) := by decide +kernel

set_option maxRecDepth 100000 in
set_option maxHeartbeats 2000000 in
theorem awake_any (w : World) (hc0 : Codes w) :
    Calls Tryz.prog 6 #[] w fun e w' => e = .returned (.bool true) ∧ Below w.heap.size w w' := by
  have HBD := Lib.hid (fun W B a h b1 b2 => build_any 0 0 3 6 9 W B a 2 [[97, 98, 99], [100, 101, 102]] h b1 (by simp) (by simp) (by omega) b2)
  rw [awake_res] at HBD
  obtain ⟨d0, hd0⟩ : ∃ d0 : By, d0 = [9, 2, 8] ++ zeros 125 := ⟨_, rfl⟩
  obtain ⟨d1, hd1⟩ : ∃ d1 : By, d1 = [6, 0, 97, 98, 99, 100, 101, 102] ++ zeros 120 := ⟨_, rfl⟩
  have l0 : d0.length = 128 := by rw [hd0]; rfl
  have l1 : d1.length = 128 := by rw [hd1]; rfl
  have t0 : d0.take 4 = [9, 2, 8, 0] := by rw [hd0]; rfl
  have t1 : d1.take 9 = [6, 0, 97, 98, 99, 100, 101, 102, 0] := by rw [hd1]; rfl
  rw [← hd0, ← hd1] at HBD
  clear hd0 hd1
  have hsr : ∀ W : World, Strs (W.alloc (.cells #[.string ⟨#[97, 98, 99]⟩, .string ⟨#[100, 101, 102]⟩] 9)) (W.heap.size + 1) (some ⟨W.heap.size, 0, none⟩) [[97, 98, 99], [100, 101, 102]] := fun W =>
    ⟨fun _ => ⟨_, _, rfl, by omega, fun i hi => by
      have hi : i < 2 := hi
      have h4 : i = 0 ∨ i = 1 := by omega
      rcases h4 with rfl | rfl
      · exact cell_at (heap_alloc_new W _) rfl
      · exact cell_at (heap_alloc_new W _) rfl⟩⟩
  have HSR := Lib.hid hsr
  clear hsr
  go_enter Tryz.func6, Tryz.ntmps6
  go_wp2_with fail
  refine (set_any _ _ _ _ _).mono ?_
  rintro e w1 ⟨rfl, hb1⟩
  have HB1 := Lib.hid hb1
  clear hb1
  go_wp2_with fail
  refine (HBD.out _ (w1.heap.size + 1) _ (HSR.out _) (by simp) (hc0.below (HB1.out.alloc HB1.out.size _) hc0.pos)).mono ?_
  rintro e w2 hP
  obtain ⟨v, rfl, ho⟩ := hP.out
  obtain ⟨va, vc, rfl, hW⟩ := wrs_of_row ho
  obtain ⟨b, rfl, c0, c1⟩ := hW.get (i := 0) (by simp)
  obtain ⟨b', hb', c2, c3⟩ := hW.get (i := 1) (by simp)
  obtain rfl : b = b' := by simpa using hb'
  have HB2 := Lib.hid ((HB1.out.alloc HB1.out.size _).trans (hP.bel.mono (HB1.out.alloc HB1.out.size _).size))
  clear hb' hP ho hW
  simp only [List.getElem_cons_zero, List.getElem_cons_succ] at c0 c1 c2 c3
  go_wp2_with fail
  go_ret
  exact ⟨rfl, HB2.out⟩
end

section
open Go.RowKit Go.Sort
attribute [local go_sem ↓] loadDs_down

theorem Wrs.below {w w' : World} {a : Option Addr} {l : List (Nat × By)} (h : Wrs w a l) (hb : Below w.heap.size w w') : Wrs w' a l :=
  ⟨fun hl => by
    obtain ⟨b, h1, h2⟩ := h.cells hl
    exact ⟨b, h1, fun i hi => ⟨(hb.cell (block_lt_of_cell (h2 i hi).1)).trans (h2 i hi).1, (hb.cell (block_lt_of_cell (h2 i hi).2)).trans (h2 i hi).2⟩⟩⟩
theorem buildRes_length (org fmt len blk n : Int) (l : List By) (hl : l.length ≤ 900) : (buildRes org fmt len blk n l).1.length ≤ 1000000001 := by
  unfold buildRes
  split
  · rename_i h
    split
    · rename_i ha
      obtain ⟨rfl, h1, h2⟩ := ds_pos h.1
      obtain ⟨len', rfl⟩ := Int.eq_ofNat_of_zero_le h1
      obtain ⟨blk', rfl⟩ := Int.eq_ofNat_of_zero_le h2
      have hb := (packV_bd fmt len' blk' l h.1 ha hl).all
      simp only [Int.toNat_natCast]
      generalize streamOf (packV fmt len' blk' l) = S at hb ⊢
      have := secA_le S.length S
      show ((0, _) :: wr1 1 (secA S.length S)).length ≤ _
      rw [List.length_cons, wr1_length]; omega
    · simp
  · simp
theorem few_len {l : List By} {n k : Nat} (h : fewV l n k = true) : l.length ≤ n := by
  unfold fewV at h; rw [Bool.and_eq_true] at h; simpa using h.2
end

end Go.Proofs.YthkpcalopmddpaaGreatDoor

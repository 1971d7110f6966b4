/-
  Walks: the difference of two sets of tracks, by the reference. Conditions: runs in memory; numbers of 64 bits.
-/
import Derived.Test.YtcidbmldbikknaaGreatDoorF1
import Derived.Test.YtcidbmldbikknaaGreatDoorF2
namespace Go.Proofs.YtcidbmldbikknaaGreatDoor
open Go.RowKit Go.Sort
attribute [local go_sem ↓] loadRn_down storeRn_down

def minB (l m : List Rn) (i : Nat) : Bool := inP l i && !inP m i
/-- The tracks of the first runs that are not in the second ones. -/
def minP (l m : List Rn) : List Rn := setP ((List.range 128).map (minB l m))
theorem infoB : (Tryz.prog.info? 4).map (fun i => (i.zero, i.size, i.bytes)) = some (some (.bool false), 1, 1) := by kernel_rfl
def bitsF (mb : Nat → Bool) (j : Nat) : List Value := (List.range j).map fun i => .bool (mb i)
theorem bitsF_succ (mb : Nat → Bool) (j : Nat) : bitsF mb (j + 1) = bitsF mb j ++ [.bool (mb j)] := by simp [bitsF, List.range_succ]

set_option maxRecDepth 100000 in
set_option maxHeartbeats 4000000 in
theorem rset_any (w : World) (B : Nat) (a b : Option Addr) (c d : Nat) (l m : List Rn) (ha : Runs w B a l) (hb : Runs w B b m) (hB : B ≤ w.heap.size) (hl : l.length ≤ 1000000) (hm : m.length ≤ 1000000) :
    Calls Tryz.prog 127 #[.slice a l.length c, .slice b m.length d, .bool true, .bool false, .bool false] w fun e w' => ∃ v, e = .returned v ∧ w'.ownsRow w.heap.size 68 2 v (minP l m).length (refsF (minP l m)) ∧ Below w.heap.size w w' := by
  obtain ⟨i0, hi0, hz0, hz1, hz2⟩ := info_parts infoB
  have HA := Lib.hid (fun (i : Nat) (hi : i ≤ 128) W (h1 : Runs W B a l) h2 => in_any W B a c l i h1 h2 hl hi)
  have HC := Lib.hid (fun (i : Nat) (hi : i ≤ 128) W (h1 : Runs W B b m) h2 => in_any W B b d m i h1 h2 hm hi)
  have HRA := Lib.hid ha
  have HRB := Lib.hid hb
  have HP := Lib.hid (show minP l m = setP ((List.range 128).map (minB l m)) from rfl)
  have HM := Lib.hid (fun i => show minB l m i = (inP l i && !inP m i) from rfl)
  generalize minP l m = P at HP ⊢
  generalize minB l m = mb at HP HM
  generalize inP l = fl at HA HM
  generalize inP m = fm at HC HM
  have HO0 := Lib.hid (show (w.alloc (.cells #[] 4)).ownsRow w.heap.size 4 1 (.slice (some ⟨w.heap.size, 0, none⟩) 0 0) 0 [] from World.ownsRow_lit w #[] 0 (Nat.le_refl _) (by simp [maxLen]) rfl)
  have HB0 := Lib.hid (box_below w #[] 4)
  clear ha hb
  go_enter Tryz.func127, Tryz.ntmps127
  go_wp2_with fail
  go_loopw [11, 12] (fun v k wr => ∃ j : Nat, j ≤ 128 ∧ k = .int .i64 j ∧ Below w.heap.size w wr ∧ wr.ownsRow w.heap.size 4 1 v j (bitsF mb j)) (fun _ k _ => 128 - (intOf k).toNat)
  case atStart => exact ⟨0, by omega, rfl, HB0.out, HO0.out⟩
  case round =>
    clear HB0 HO0
    obtain ⟨j, hj, rfl, hb, ho⟩ := hrel
    have HB := Lib.hid hb
    have HO := Lib.hid ho
    obtain ⟨oa, oc, rfl⟩ := int_slice ho
    clear hb ho
    by_cases hlt : j < 128
    · have hltI : (j : Int) < 128 := by omega
      have h1 := fun W q1 q2 => HA.out j (by omega) W q1 q2
      have h2 := fun W q1 q2 => HC.out j (by omega) W q1 q2
      have h3 := HM.out j
      generalize fl j = xa at h1 h3
      generalize fm j = xb at h2 h3
      have H1 := Lib.hid h1
      have H2 := Lib.hid h2
      have H3 := Lib.hid h3
      clear h1 h2 h3
      go_wp2_with fail
      refine (H1.out _ (HRA.out.below (HB.out.mono hB)) (Nat.le_trans hB HB.out.size)).mono ?_
      rintro e w1 ⟨rfl, hb1⟩
      have HB1 := Lib.hid (HB.out.trans (hb1.mono HB.out.size))
      have HO1 := Lib.hid (own_below HO.out hb1)
      clear hb1
      go_wp2_with fail
      refine (H2.out _ (HRB.out.below (HB1.out.mono hB)) (Nat.le_trans hB HB1.out.size)).mono ?_
      rintro e w2 ⟨rfl, hb2⟩
      have HB2 := Lib.hid (HB1.out.trans (hb2.mono HB1.out.size))
      have hlow := own_below HO1.out hb2
      clear hb2
      cases xa with
      | false =>
        cases xb with
        | false =>
          go_wp2_with (refine wpList_append_own _ rfl _ _ 153 rfl w.heap.size 4 i0 (.bool false) 1 1 Tryz.underlying153 hi0 hz0 hz1 hz2 rfl (by decide) _ _ _ rfl (hlow.alloc _) _ 1 1 [.bool false] rfl rfl ?b1 ?b2 ?b3 ?b4 ?b5 ?_)
          try (case b1 => exact news_at (cs := #[.bool false]) (heap_alloc_new _ _))
          try (case b2 => simp [Value.oneCell'])
          try (case b3 => unfold maxLen; omega)
          try (case b4 => omega)
          try (case b5 => have := HB2.out.size; simp; omega)
          intro v6 w6 ho6 hg6 _
          have HB6 := Lib.hid ((HB2.out.alloc HB2.out.size (.cells #[.bool false] 4)).grown hg6 (HB2.out.alloc HB2.out.size _).size (fun k hk => row_own hlow hk))
          have HO6 := Lib.hid (show w6.ownsRow w.heap.size 4 1 v6 (j + 1) (bitsF mb (j + 1)) by rw [bitsF_succ, show mb j = false from H3.out]; exact ho6)
          clear ho6 hg6 hlow
          go_wp2_with fail
          go_roundw
          case rel => exact ⟨j + 1, by omega, by go_num, HB6.out, HO6.out⟩
          case measure => simp [intOf]; omega
        | true =>
          go_wp2_with (refine wpList_append_own _ rfl _ _ 153 rfl w.heap.size 4 i0 (.bool false) 1 1 Tryz.underlying153 hi0 hz0 hz1 hz2 rfl (by decide) _ _ _ rfl (hlow.alloc _) _ 1 1 [.bool false] rfl rfl ?b1 ?b2 ?b3 ?b4 ?b5 ?_)
          try (case b1 => exact news_at (cs := #[.bool false]) (heap_alloc_new _ _))
          try (case b2 => simp [Value.oneCell'])
          try (case b3 => unfold maxLen; omega)
          try (case b4 => omega)
          try (case b5 => have := HB2.out.size; simp; omega)
          intro v6 w6 ho6 hg6 _
          have HB6 := Lib.hid ((HB2.out.alloc HB2.out.size (.cells #[.bool false] 4)).grown hg6 (HB2.out.alloc HB2.out.size _).size (fun k hk => row_own hlow hk))
          have HO6 := Lib.hid (show w6.ownsRow w.heap.size 4 1 v6 (j + 1) (bitsF mb (j + 1)) by rw [bitsF_succ, show mb j = false from H3.out]; exact ho6)
          clear ho6 hg6 hlow
          go_wp2_with fail
          go_roundw
          case rel => exact ⟨j + 1, by omega, by go_num, HB6.out, HO6.out⟩
          case measure => simp [intOf]; omega
      | true =>
        cases xb with
        | false =>
          go_wp2_with (refine wpList_append_own _ rfl _ _ 153 rfl w.heap.size 4 i0 (.bool false) 1 1 Tryz.underlying153 hi0 hz0 hz1 hz2 rfl (by decide) _ _ _ rfl (hlow.alloc _) _ 1 1 [.bool true] rfl rfl ?b1 ?b2 ?b3 ?b4 ?b5 ?_)
          try (case b1 => exact news_at (cs := #[.bool true]) (heap_alloc_new _ _))
          try (case b2 => simp [Value.oneCell'])
          try (case b3 => unfold maxLen; omega)
          try (case b4 => omega)
          try (case b5 => have := HB2.out.size; simp; omega)
          intro v6 w6 ho6 hg6 _
          have HB6 := Lib.hid ((HB2.out.alloc HB2.out.size (.cells #[.bool true] 4)).grown hg6 (HB2.out.alloc HB2.out.size _).size (fun k hk => row_own hlow hk))
          have HO6 := Lib.hid (show w6.ownsRow w.heap.size 4 1 v6 (j + 1) (bitsF mb (j + 1)) by rw [bitsF_succ, show mb j = true from H3.out]; exact ho6)
          clear ho6 hg6 hlow
          go_wp2_with fail
          go_roundw
          case rel => exact ⟨j + 1, by omega, by go_num, HB6.out, HO6.out⟩
          case measure => simp [intOf]; omega
        | true =>
          go_wp2_with (refine wpList_append_own _ rfl _ _ 153 rfl w.heap.size 4 i0 (.bool false) 1 1 Tryz.underlying153 hi0 hz0 hz1 hz2 rfl (by decide) _ _ _ rfl (hlow.alloc _) _ 1 1 [.bool false] rfl rfl ?b1 ?b2 ?b3 ?b4 ?b5 ?_)
          try (case b1 => exact news_at (cs := #[.bool false]) (heap_alloc_new _ _))
          try (case b2 => simp [Value.oneCell'])
          try (case b3 => unfold maxLen; omega)
          try (case b4 => omega)
          try (case b5 => have := HB2.out.size; simp; omega)
          intro v6 w6 ho6 hg6 _
          have HB6 := Lib.hid ((HB2.out.alloc HB2.out.size (.cells #[.bool false] 4)).grown hg6 (HB2.out.alloc HB2.out.size _).size (fun k hk => row_own hlow hk))
          have HO6 := Lib.hid (show w6.ownsRow w.heap.size 4 1 v6 (j + 1) (bitsF mb (j + 1)) by rw [bitsF_succ, show mb j = false from H3.out]; exact ho6)
          clear ho6 hg6 hlow
          go_wp2_with fail
          go_roundw
          case rel => exact ⟨j + 1, by omega, by go_num, HB6.out, HO6.out⟩
          case measure => simp [intOf]; omega
    · obtain rfl : j = 128 := by omega
      have hX : bitsF mb 128 = ((List.range 128).map mb).map Value.bool := by simp [bitsF]
      have ho := HO.out
      rw [hX] at ho
      have hln : ((List.range 128).map mb).length = 128 := by simp
      have HPP := Lib.hid (show setP ((List.range 128).map mb) = P from HP.out.symm)
      clear hX
      generalize (List.range 128).map mb = bl at ho hln HPP
      have ho2 : wr.ownsRow w.heap.size 4 1 (.slice oa 128 oc) bl.length (bl.map Value.bool) := by rw [hln]; exact ho
      obtain ⟨a2, c2, he, hbo⟩ := bools_of_row ho2
      have hs := set_any wr wr.heap.size a2 c2 bl hbo (Nat.le_refl _) (by omega)
      rw [← he, HPP.out] at hs
      have HS := Lib.hid hs
      have hltI : ¬ ((128 : Nat) : Int) < 128 := by omega
      clear ho ho2 hbo he hs HO
      go_wp2_with fail
      refine HS.out.mono ?_
      rintro e w2 ⟨v, rfl, hO, hb2⟩
      have HB2 := Lib.hid (HB.out.trans (hb2.mono HB.out.size))
      have HO2 := Lib.hid (own_mono hO HB.out.size)
      clear hO hb2
      go_wp2_with fail
      go_ret
      exact ⟨_, rfl, HO2.out, HB2.out⟩

set_option maxHeartbeats 1000000 in
theorem minus_any (w : World) (B : Nat) (a b : Option Addr) (c d : Nat) (l m : List Rn) (ha : Runs w B a l) (hb : Runs w B b m) (hB : B ≤ w.heap.size) (hl : l.length ≤ 1000000) (hm : m.length ≤ 1000000) :
    Calls Tryz.prog 121 #[.slice a l.length c, .slice b m.length d] w fun e w' => ∃ v, e = .returned v ∧ w'.ownsRow w.heap.size 68 2 v (minP l m).length (refsF (minP l m)) ∧ Below w.heap.size w w' := by
  have HS := Lib.hid (rset_any w B a b c d l m ha hb hB hl hm)
  generalize minP l m = P at HS ⊢
  clear ha hb
  go_enter Tryz.func121, Tryz.ntmps121
  go_wp2_with fail
  refine HS.out.mono ?_
  rintro e w2 ⟨v, rfl, hO, hb2⟩
  have HB2 := Lib.hid hb2
  have HO2 := Lib.hid hO
  clear hO hb2
  go_wp2_with fail
  go_ret
  exact ⟨_, rfl, HO2.out, HB2.out⟩

set_option maxHeartbeats 1000000 in
theorem normal_any (w : World) (B : Nat) (a : Option Addr) (c : Nat) (l : List Rn) (ha : Runs w B a l) (hB : B ≤ w.heap.size) (hl : l.length ≤ 1000000) :
    Calls Tryz.prog 120 #[.slice a l.length c] w fun e w' => ∃ v, e = .returned v ∧ w'.ownsRow w.heap.size 68 2 v (minP l []).length (refsF (minP l [])) ∧ Below w.heap.size w w' := by
  have HS := Lib.hid (rset_any w B a none c 0 l [] ha (runs_nil _ _ _) hB hl (by simp))
  generalize minP l [] = P at HS ⊢
  clear ha
  go_enter Tryz.func120, Tryz.ntmps120
  go_wp2_with fail
  refine HS.out.mono ?_
  rintro e w2 ⟨v, rfl, hO, hb2⟩
  have HB2 := Lib.hid hb2
  have HO2 := Lib.hid hO
  clear hO hb2
  go_wp2_with fail
  go_ret
  exact ⟨_, rfl, HO2.out, HB2.out⟩

/-- The tracks from the first to the last, each as a run. -/
def freeF (f n j : Nat) : List Rn := ((List.range j).filter fun t => decide (f ≤ t) && decide (t < n)).map fun (t : Nat) => ((t : Int), (1 : Int))
theorem freeF_in (f n j : Nat) (h : f ≤ j ∧ j < n) : freeF f n (j + 1) = freeF f n j ++ [((j : Int), 1)] := by simp [freeF, List.range_succ, h.1, h.2]
theorem freeF_out (f n j : Nat) (h : ¬ (f ≤ j ∧ j < n)) : freeF f n (j + 1) = freeF f n j := by
  have : (decide (f ≤ j) && decide (j < n)) = false := by simpa using h
  simp [freeF, List.range_succ, this]
theorem freeF_len (f n j : Nat) : (freeF f n j).length ≤ j := by
  unfold freeF
  rw [List.length_map]
  exact Nat.le_trans (List.length_filter_le _ _) (by simp)
theorem freeF_ok (f n j : Nat) (h : j ≤ 128) : ∀ r ∈ freeF f n j, okRn r := by
  intro r hr
  simp only [freeF, List.mem_map, List.mem_filter, List.mem_range] at hr
  obtain ⟨t, ⟨ht, _⟩, rfl⟩ := hr
  exact ⟨by unfold okI; simp; omega, by unfold okI; simp⟩

set_option maxRecDepth 100000 in
set_option maxHeartbeats 4000000 in
theorem rfree_any (w : World) (B : Nat) (a : Option Addr) (c : Nat) (m : List Rn) (f n : Nat) (ha : Runs w B a m) (hB : B ≤ w.heap.size) (hm : m.length ≤ 1000000) :
    Calls Tryz.prog 110 #[.int .i64 f, .int .i64 n, .slice a m.length c] w fun e w' => ∃ v, e = .returned v ∧ w'.ownsRow w.heap.size 68 2 v (minP (freeF f n 128) m).length (refsF (minP (freeF f n 128) m)) ∧ Below w.heap.size w w' := by
  obtain ⟨i0, hi0, hz0, hz1, hz2⟩ := info_parts infoRn
  have HR := Lib.hid ha
  have HM := Lib.hid (fun W a1 c1 (h1 : Runs W W.heap.size a1 (freeF f n 128)) (h2 : Runs W W.heap.size a m) => minus_any W W.heap.size a1 a c1 c (freeF f n 128) m h1 h2 (Nat.le_refl _) (Nat.le_trans (freeF_len _ _ _) (by omega)) hm)
  generalize minP (freeF f n 128) m = P at HM ⊢
  have HO0 := Lib.hid (show (w.alloc (.cells #[] 68)).ownsRow w.heap.size 68 2 (.slice (some ⟨w.heap.size, 0, none⟩) 0 0) 0 [] from World.ownsRow_lit w #[] 0 (Nat.le_refl _) (by simp [maxLen]) rfl)
  have HB0 := Lib.hid (box_below w #[] 68)
  clear ha
  go_enter Tryz.func110, Tryz.ntmps110
  go_wp2_with fail
  go_loopw [7, 8] (fun v k wr => ∃ j : Nat, j ≤ 128 ∧ k = .int .i64 j ∧ Below w.heap.size w wr ∧ wr.ownsRow w.heap.size 68 2 v (freeF f n j).length (refsF (freeF f n j))) (fun _ k _ => 128 - (intOf k).toNat)
  case atStart => exact ⟨0, by omega, rfl, HB0.out, HO0.out⟩
  case round =>
    clear HB0 HO0
    obtain ⟨j, hj, rfl, hb, ho⟩ := hrel
    have HB := Lib.hid hb
    have HO := Lib.hid ho
    obtain ⟨oa, oc, rfl⟩ := row_slice ho
    have hln := freeF_len f n j
    clear hb ho
    by_cases hlt : j < 128
    · have hltI : (j : Int) < 128 := by omega
      by_cases h1 : f ≤ j
      · have h1I : (f : Int) ≤ (j : Int) := by omega
        by_cases h2 : j < n
        · have h2I : (j : Int) < (n : Int) := by omega
          have HE := Lib.hid (freeF_in f n j ⟨h1, h2⟩)
          have hlow := HO.out
          have HL := Lib.hid hln
          generalize freeF f n j = fr at *
          go_wp2_with (refine wpList_append_own _ rfl _ _ 41 rfl w.heap.size 68 i0 (.agg #[.int .i64 0, .int .i64 0]) 2 16 Tryz.underlying41 hi0 hz0 hz1 hz2 rfl (by decide) _ _ _ rfl (hlow.alloc _) _ 1 1 [.int .i64 j, .int .i64 1] rfl rfl ?b1 ?b2 ?b3 ?b4 ?b5 ?_)
          try (case b1 => exact news_at (cs := #[.int .i64 j, .int .i64 1]) (heap_alloc_new _ _))
          try (case b2 => simp [Value.oneCell'])
          try (case b3 => unfold maxLen; have := HL.out; omega)
          try (case b4 => omega)
          try (case b5 => have := HB.out.size; simp; omega)
          intro v6 w6 ho6 hg6 _
          have HB6 := Lib.hid ((HB.out.alloc HB.out.size (.cells #[.int .i64 j, .int .i64 1] 68)).grown hg6 (HB.out.alloc HB.out.size _).size (fun k hk => row_own hlow hk))
          have HO6 := Lib.hid (show w6.ownsRow w.heap.size 68 2 v6 (freeF f n (j + 1)).length (refsF (freeF f n (j + 1))) by rw [HE.out, List.length_append, refsF_append]; exact ho6)
          clear ho6 hg6 hlow
          go_wp2_with fail
          go_roundw
          case rel => exact ⟨j + 1, by omega, by go_num, HB6.out, HO6.out⟩
          case measure => simp [intOf]; omega
        · have h2I : ¬ (j : Int) < (n : Int) := by omega
          have HO6 := Lib.hid (show wr.ownsRow w.heap.size 68 2 (.slice oa (freeF f n j).length oc) (freeF f n (j + 1)).length (refsF (freeF f n (j + 1))) by rw [freeF_out f n j (by omega)]; exact HO.out)
          go_wp2_with fail
          go_roundw
          case rel => exact ⟨j + 1, by omega, by go_num, HB.out, HO6.out⟩
          case measure => simp [intOf]; omega
      · have h1I : ¬ (f : Int) ≤ (j : Int) := by omega
        have HO6 := Lib.hid (show wr.ownsRow w.heap.size 68 2 (.slice oa (freeF f n j).length oc) (freeF f n (j + 1)).length (refsF (freeF f n (j + 1))) by rw [freeF_out f n j (by omega)]; exact HO.out)
        go_wp2_with fail
        go_roundw
        case rel => exact ⟨j + 1, by omega, by go_num, HB.out, HO6.out⟩
        case measure => simp [intOf]; omega
    · obtain rfl : j = 128 := by omega
      obtain ⟨a2, c2, he, hrr⟩ := runs_of_row HO.out (freeF_ok f n 128 (Nat.le_refl _))
      obtain ⟨rfl, rfl⟩ : oa = a2 ∧ oc = c2 := by simpa using he
      have HS := Lib.hid (HM.out wr oa oc hrr ((HR.out.below (HB.out.mono hB)).mono (Nat.le_trans hB HB.out.size)))
      have hltI : ¬ ((128 : Nat) : Int) < 128 := by omega
      clear he hrr HO
      generalize (freeF f n 128).length = fln at *
      go_wp2_with fail
      refine HS.out.mono ?_
      rintro e w2 ⟨v, rfl, hO, hb2⟩
      have HB2 := Lib.hid (HB.out.trans (hb2.mono HB.out.size))
      have HO2 := Lib.hid (own_mono hO HB.out.size)
      clear hO hb2
      go_wp2_with fail
      go_ret
      exact ⟨_, rfl, HO2.out, HB2.out⟩

end Go.Proofs.YtcidbmldbikknaaGreatDoor

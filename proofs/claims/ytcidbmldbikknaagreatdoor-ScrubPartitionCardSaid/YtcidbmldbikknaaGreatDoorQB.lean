/-
  Plain: sets of tracks; free tracks and the map of a valid table. No condition.
  Walks: whether a track is in some runs; the difference of two sets of tracks, by the program. Conditions: runs in memory as slices; numbers of 64 bits.
  Walks: the free tracks of a range; the free tracks of a valid table, by the program. Conditions: runs, a table in memory; numbers of 64 bits.
  Walk: the law ScrubPartition. Conditions: a table in memory; the library's table in memory.
-/
import Derived.Test.YtcidbmldbikknaaGreatDoorPC
import Derived.Test.YtcidbmldbikknaaGreatDoorE16
import Derived.Test.YtcidbmldbikknaaGreatDoorPB
import Derived.Test.YtcidbmldbikknaaGreatDoorE6
import Derived.Test.YtcidbmldbikknaaGreatDoorQA
import Derived.Test.YtcidbmldbikknaaGreatDoorF13
import Derived.Test.YtcidbmldbikknaaGreatDoorE13
import Derived.Test.YtcidbmldbikknaaGreatDoorE14
import Derived.StillTailTactics
import Derived.Laws.EntriesVeiled
import Derived.Deep.RegionLaw
import Derived.Lib.QuietBelow
namespace Go.Proofs.YtcidbmldbikknaaGreatDoor

section
open Go.RowKit Go.Sort

theorem shared_nil {L : List Nat} (h : L.Nodup) (n : Nat) : sharedS L n = [] := by
  unfold sharedS
  refine List.filter_eq_nil_iff.2 fun a _ => ?_
  have := List.nodup_iff_count.1 h a
  simp; omega
theorem cnt_not (p : Nat → Bool) (lo : Nat) : ∀ n, cntB p lo n + cntB (fun i => !p i) lo n = n := by
  intro n
  unfold cntB
  have := List.length_eq_countP_add_countP p (l := List.range' lo n)
  rw [List.countP_eq_length_filter, List.countP_eq_length_filter, List.length_range', show (fun a => decide ¬p a = true) = (fun i => !p i) by funext i; cases p i <;> rfl] at this
  omega
theorem free_used {tr : Int} {l : List Lab} (h : 4 ≤ tr ∧ tr ≤ 128) : (freeN tr l : Int) + usedN tr l = tr - ttP tr := by
  have := cnt_not (isOwn l) (ttP tr).toNat ((trP tr).toNat - (ttP tr).toNat)
  unfold freeN usedN
  have htt : 0 ≤ ttP tr ∧ ttP tr ≤ tr := by unfold ttP; rw [if_pos h]; omega
  have htr : trP tr = tr := by unfold trP; rw [if_pos h]
  rw [htr] at this ⊢
  omega
/-- Whether a track is free. -/
def freeB (tr : Int) (l : List Lab) (i : Nat) : Bool := decide (ttP tr ≤ (i : Int)) && (decide ((i : Int) < tr) && !memB (allT l) i)
theorem free_len {tr : Int} {l : List Lab} (h : 4 ≤ tr ∧ tr ≤ 128) : (setN (freeB tr l)).length = freeN tr l := by
  unfold freeN cntB setN
  have htt : 0 ≤ ttP tr ∧ ttP tr ≤ tr := by unfold ttP; rw [if_pos h]; omega
  have htr : trP tr = tr := by unfold trP; rw [if_pos h]
  rw [htr]
  refine nodup_len_eq (List.Pairwise.filter _ List.nodup_range) (List.Pairwise.filter _ List.nodup_range') fun a => ?_
  rw [List.mem_filter, List.mem_filter, List.mem_range, List.mem_range'_1]
  unfold freeB isOwn memB
  rw [own_isSome]
  simp only [Bool.and_eq_true, decide_eq_true_eq]
  constructor
  · rintro ⟨h1, h2, h3, h4⟩; exact ⟨⟨by omega, by omega⟩, h4⟩
  · rintro ⟨⟨h1, h2⟩, h4⟩; exact ⟨by omega, by omega, by omega, h4⟩
theorem own_some (t : Nat) : ∀ (l : List Lab) (m j k : Nat), ownP l m (t : Int) = some (j, k) → ∃ x, m ≤ j ∧ l[j - m]? = some x ∧ t ∈ seqP x.ext
  | [], m, j, k, h => by cases h
  | x :: l, m, j, k, h => by
    have hi := idx_isSome t x.ext 0
    rw [ownP] at h
    cases hx : idxP x.ext 0 (t : Int) with
    | some q =>
      rw [hx] at h hi
      simp at h hi
      obtain ⟨rfl, rfl⟩ := h
      exact ⟨x, by omega, by simp, hi⟩
    | none =>
      rw [hx] at h
      obtain ⟨y, h1, h2, h3⟩ := own_some t l (m + 1) j k h
      exact ⟨y, by omega, by rw [show j - m = (j - (m + 1)) + 1 by omega]; exact h2, h3⟩
/-- What the map of a valid table says of a track. -/
theorem ValidT.map {tr : Int} {l : List Lab} (h : ValidT tr l) (i : Nat) (hi : (i : Int) < tr) :
    (mapV tr l i = 0 ↔ freeB tr l i = true) ∧ (mapV tr l i = -1 ↔ (i : Int) < ttP tr) := by
  rw [mapV_eq]
  unfold freeB memB
  by_cases h1 : (i : Int) < ttP tr
  · rw [if_pos h1]
    refine ⟨⟨fun q => by omega, fun q => ?_⟩, ⟨fun _ => h1, fun _ => rfl⟩⟩
    simp only [Bool.and_eq_true, decide_eq_true_eq] at q
    omega
  · rw [if_neg h1]
    have hs := own_isSome i l 0
    cases ho : ownP l 0 (i : Int) with
    | none =>
      rw [ho] at hs
      simp at hs
      simp [mapO, hs]; omega
    | some x =>
      obtain ⟨j, k⟩ := x
      obtain ⟨y, _, h2, h3⟩ := own_some i l 0 j k ho
      rw [ho] at hs
      simp at hs
      have hey : emptyL y = false := by
        cases q : emptyL y with
        | false => rfl
        | true => rw [empty_ext q] at h3; simp [seqP] at h3
      have hid := (h.ok y (List.mem_of_getElem? h2) hey).id
      simp only [Nat.sub_zero] at h2
      simp only [mapO, h2]
      simp [hs]; omega
end

section
open Go.RowKit Go.Sort
attribute [local go_sem ↓] loadRn_down storeRn_down loadSet_down storeSet_down

set_option maxRecDepth 100000 in
set_option maxHeartbeats 2000000 in
theorem xcontains_any (w : World) (B : Nat) (a : Option Addr) (cap : Nat) (l : List Rn) (t : Int) (h : Runs w B a l) (hB : B ≤ w.heap.size) (hl : l.length ≤ 1000000) (ht : okI t) :
    Calls Tryz.prog 25 #[.slice a l.length cap, .int .i64 t] w fun e w' => e = .returned (.bool (idxP l 0 t).isSome) ∧ Below w.heap.size w w' := by
  have HI := Lib.hid (index_any w B a cap l t h hB hl ht)
  generalize idxP l 0 t = T at HI ⊢
  clear h
  go_enter Tryz.func25, Tryz.ntmps25
  go_wp2_with fail
  refine HI.out.mono ?_
  rintro e w1 ⟨rfl, hb1⟩
  have HB1 := Lib.hid hb1
  clear hb1
  cases T with
  | none =>
    simp only [idxR]
    go_wp2_with fail
    go_ret
    exact ⟨rfl, HB1.out⟩
  | some n =>
    simp only [idxR]
    go_wp2_with fail
    go_ret
    exact ⟨rfl, HB1.out⟩

set_option maxRecDepth 100000 in
theorem bit_t (w : World) : Calls Tryz.prog 118 #[.bool true] w fun e w' => e = .returned (.int .i64 1) ∧ w = w' := by
  go_enter Tryz.func118, Tryz.ntmps118
  go_wp2_with fail
  go_ret
  exact ⟨rfl, rfl⟩
set_option maxRecDepth 100000 in
theorem bit_f (w : World) : Calls Tryz.prog 118 #[.bool false] w fun e w' => e = .returned (.int .i64 0) ∧ w = w' := by
  go_enter Tryz.func118, Tryz.ntmps118
  go_wp2_with fail
  go_ret
  exact ⟨rfl, rfl⟩

theorem bit_tS (w : World) : Calls Tryz.prog 118 #[.bool true] w fun e w' => e = .returned (.int .i64 1) ∧ w' = w := (bit_t w).mono fun _ _ h => ⟨h.1, h.2.symm⟩
theorem bit_fS (w : World) : Calls Tryz.prog 118 #[.bool false] w fun e w' => e = .returned (.int .i64 0) ∧ w' = w := (bit_f w).mono fun _ _ h => ⟨h.1, h.2.symm⟩

/-- The difference of two sets. -/
def diffB (p q : Nat → Bool) (i : Nat) : Bool := p i && !q i
def diffJ (p q : Nat → Bool) (j : Nat) (i : Nat) : Bool := decide (i < j) && diffB p q i
theorem diff_all (p q : Nat → Bool) : bitsA (diffJ p q 128) = bitsA (diffB p q) := by
  apply Array.ext_getElem?
  intro i
  by_cases hi : i < 128
  · rw [bitsA_get _ _ hi, bitsA_get _ _ hi]; simp [diffJ, hi]
  · rw [Array.getElem?_eq_none (by rw [bitsA_size]; omega), Array.getElem?_eq_none (by rw [bitsA_size]; omega)]

set_option maxRecDepth 100000 in
set_option maxHeartbeats 4000000 in
theorem xmix_any (w : World) (B : Nat) (a b : Option Addr) (c d : Nat) (l m : List Rn) (ha : Runs w B a l) (hb : Runs w B b m) (hB : B ≤ w.heap.size) (hl : l.length ≤ 1000000) (hm : m.length ≤ 1000000) :
    Calls Tryz.prog 104 #[.slice a l.length c, .slice b m.length d, .agg #[.bool false, .bool false, .bool true, .bool false]] w fun e w' => ∃ (v : Value) (out : List Rn), e = .returned v ∧ SetRs (diffB (memB (seqP l)) (memB (seqP m))) out ∧ w'.ownsRow w.heap.size 68 2 v out.length (refsF out) ∧ Below w.heap.size w w' := by
  obtain ⟨W0, hW0⟩ : ∃ W0, W0 = w.alloc (.cells #[.bool false, .bool false, .bool true, .bool false] 128) := ⟨_, rfl⟩
  have hb0 : Below w.heap.size w W0 := by rw [hW0]; exact box_below w _ _
  have ht0 : W0.heap[w.heap.size]? = some (.cells #[.bool false, .bool false, .bool true, .bool false] 128 (0, 0)) := by rw [hW0]; exact heap_alloc_new w _
  have HB0 := Lib.hid hb0
  have HT0 := Lib.hid ht0
  have HW0 := Lib.hid hW0
  have HRU := Lib.hid (fun W g P hg => runs_any W g P hg)
  have HZ := Lib.hid zeroSet
  have HX := Lib.hid (fun W h1 h2 => of_any W B a c l h1 h2 hl)
  have HY := Lib.hid (fun W h1 h2 => of_any W B b d m h1 h2 hm)
  have HA := Lib.hid ha
  have HM := Lib.hid hb
  generalize memB (seqP l) = p at HX ⊢
  generalize memB (seqP m) = q at HY ⊢
  clear ha hb hb0 ht0 hW0
  go_enter Tryz.func104, Tryz.ntmps104
  go_wp2_with fail
  rw [← HW0.out]
  refine (HX.out W0 (HA.out.below (HB0.out.mono hB)) (Nat.le_trans hB HB0.out.size)).mono ?_
  rintro e w1 ⟨rfl, hb1⟩
  have HB1 := Lib.hid (HB0.out.trans (hb1.mono HB0.out.size))
  have HT1 := Lib.hid ((hb1.block _ (lt_of_block HT0.out)).trans HT0.out)
  clear hb1
  go_wp2_with fail
  refine (HY.out w1 (HM.out.below (HB1.out.mono hB)) (Nat.le_trans hB HB1.out.size)).mono ?_
  rintro e w2 ⟨rfl, hb2⟩
  have HB2 := Lib.hid (HB1.out.trans (hb2.mono HB1.out.size))
  have HT2 := Lib.hid ((hb2.block _ (lt_of_block HT1.out)).trans HT1.out)
  have hz7 := (halloc _ (.cells (bitsA (memB [])) 112) (by simp)).trans (heap_alloc_new w2 (.cells (bitsA (memB [])) 112))
  have hz8 := two_new w2 (bitsA (memB [])) (bitsA (memB [])) 112 112
  have hbz := two_below w2 (bitsA (memB [])) (bitsA (memB [])) 112 112
  have st7 := storeSet_at (cs := bitsA p) hz7 (bitsA_size _) (by rw [bitsA_size, bitsA_size]) (bitsA_one _)
  have hg7 := setRow_heap _ _ _ (bitsA p) _ _ hz7
  obtain ⟨W7, hW7⟩ : ∃ W7, W7 = ((w2.alloc (.cells (bitsA (memB [])) 112)).alloc (.cells (bitsA (memB [])) 112)).setRow w2.heap.size (bitsA p) := ⟨_, rfl⟩
  have hg8z : W7.heap[w2.heap.size + 1]? = some (.cells (bitsA (memB [])) 112 (0, 0)) := by rw [hW7, setRow_other _ _ _ _ (by omega)]; exact hz8
  have hb7 : Below w2.heap.size w2 W7 := by rw [hW7]; exact Below.setRow hbz (Nat.le_refl _) _
  have hs7 : W7.heap.size = w2.heap.size + 2 := by rw [hW7]; simp
  rw [← hW7] at st7 hg7
  have st8 := storeSet_at (cs := bitsA q) hg8z (bitsA_size _) (by rw [bitsA_size, bitsA_size]) (bitsA_one _)
  have hg8 := setRow_heap _ _ _ (bitsA q) _ _ hg8z
  obtain ⟨W8, hW8⟩ : ∃ W8, W8 = W7.setRow (w2.heap.size + 1) (bitsA q) := ⟨_, rfl⟩
  rw [← hW8] at st8 hg8
  have hg78 : W8.heap[w2.heap.size]? = some (.cells (bitsA p) 112 (0, 0)) := by rw [hW8, setRow_other _ _ _ _ (by omega)]; exact hg7
  have hb8 : Below w2.heap.size w2 W8 := by rw [hW8]; exact Below.setRow hb7 (by omega) _
  have hs8 : W8.heap.size = w2.heap.size + 2 := by rw [hW8]; simp; exact hs7
  obtain ⟨W9, hW9⟩ : ∃ W9, W9 = W8.alloc (.cells (bitsA (memB [])) 112) := ⟨_, rfl⟩
  have hb89 : Below W8.heap.size W8 W9 := by rw [hW9]; exact box_below _ _ _
  have HG9 := Lib.hid (show W9.heap[W8.heap.size]? = some (.cells (bitsA (memB [])) 112 (0, 0)) by rw [hW9]; exact heap_alloc_new _ _)
  have HG7 := Lib.hid ((hb89.block _ (lt_of_block hg78)).trans hg78)
  have HG8 := Lib.hid ((hb89.block _ (lt_of_block hg8)).trans hg8)
  have hb29 := hb8.trans (hb89.mono hb8.size)
  have HB9 := Lib.hid (HB2.out.trans (hb29.mono HB2.out.size))
  have HT9 := Lib.hid ((hb29.block _ (lt_of_block HT2.out)).trans HT2.out)
  have HW9 := Lib.hid hW9
  obtain ⟨g9, hg9⟩ : ∃ g9, g9 = W8.heap.size := ⟨_, rfl⟩
  rw [← hg9] at HG9
  have HS9 := Lib.hid (show g9 = w2.heap.size + 2 by rw [hg9, hs8])
  have HS9' := Lib.hid hg9
  have HGT := Lib.hid (lt_of_block HT2.out)
  have HGW := Lib.hid HB2.out.size
  rw [← HZ.out] at st7
  clear hb2 hz7 hz8 hbz hg7 hW7 hg8z hb7 hs7 hg8 hW8 hg78 hb8 hs8 hW9 hb89 hb29 hg9
  go_wp2_with fail
  rw [HZ.out, ← HW9.out, ← HS9'.out]
  clear st7 st8
  have HI0 := Lib.hid (show memB [] = diffJ p q 0 from by funext i; simp [memB, diffJ])
  rw [HI0.out] at HG9
  go_loopw [16] (fun k wr => ∃ j : Nat, j ≤ 128 ∧ k = .int .i64 j ∧ wr.heap[w.heap.size]? = some (.cells #[.bool false, .bool false, .bool true, .bool false] 128 (0, 0)) ∧ wr.heap[w2.heap.size]? = some (.cells (bitsA p) 112 (0, 0)) ∧ wr.heap[w2.heap.size + 1]? = some (.cells (bitsA q) 112 (0, 0)) ∧ wr.heap[g9]? = some (.cells (bitsA (diffJ p q j)) 112 (0, 0)) ∧ Below w.heap.size w wr) (fun k _ => 128 - (intOf k).toNat)
  case atStart => exact ⟨0, by omega, rfl, HT9.out, HG7.out, HG8.out, HG9.out, HB9.out⟩
  case round =>
    clear HG7 HG8 HG9 HT9 HI0
    obtain ⟨j, hj, rfl, hT, h7, h8, h9, hb⟩ := hrel
    have HB := Lib.hid hb
    have HT := Lib.hid hT
    have H7 := Lib.hid h7
    have H8 := Lib.hid h8
    have H9 := Lib.hid h9
    by_cases hlt : j < 128
    · have hltI : (j : Int) < 128 := by omega
      have cx := (cell_of_row wr w2.heap.size j _ _ _ h7).trans (bitsA_get p j hlt)
      have cy := (cell_of_row wr (w2.heap.size + 1) j _ _ _ h8).trans (bitsA_get q j hlt)
      have cz := (cell_of_row wr g9 j _ _ _ h9).trans (bitsA_get _ j hlt)
      have fz := free_at h9 j
      have t0 := cell_at (i := 0) (v := .bool false) hT rfl
      have t1 := cell_at (i := 1) (v := .bool false) hT rfl
      have t2 := cell_at (i := 2) (v := .bool true) hT rfl
      have t3 := cell_at (i := 3) (v := .bool false) hT rfl
      have HNX := Lib.hid (show (wr.setCell ⟨g9, j, none⟩ (.bool (diffB p q j))).heap[g9]? = some (.cells (bitsA (diffJ p q (j + 1))) 112 (0, 0)) by
        rw [heap_setCell_same _ _ _ _ _ _ h9, bitsA_set _ (diffJ p q (j + 1)) j (diffB p q j)]
        intro i hi
        unfold diffJ
        by_cases e : j = i
        · subst e; simp
        · rw [if_neg e]
          by_cases h : i < j
          · simp [h, show i < j + 1 by omega]
          · simp [h, show ¬ i < j + 1 by omega])
      have HNT := Lib.hid (fun v => (heap_setCell_other wr ⟨g9, j, none⟩ w.heap.size v (by have := HS9.out; have := HGT.out; simp; omega)).trans hT)
      have HN7 := Lib.hid (fun v => (heap_setCell_other wr ⟨g9, j, none⟩ w2.heap.size v (by have := HS9.out; simp; omega)).trans h7)
      have HN8 := Lib.hid (fun v => (heap_setCell_other wr ⟨g9, j, none⟩ (w2.heap.size + 1) v (by have := HS9.out; simp; omega)).trans h8)
      have HNB := Lib.hid (fun v => hb.setCell (p := ⟨g9, j, none⟩) (by have := HS9.out; have := HGW.out; simp; omega) v)
      have hdf : diffB p q j = (p j && !q j) := rfl
      generalize diffB p q j = db at HNX hdf
      clear hb hT h7 h8 h9
      generalize p j = x at cx hdf
      generalize q j = y at cy hdf
      cases x <;> cases y <;> (simp only [Bool.and_true, Bool.and_false, Bool.not_true, Bool.not_false] at hdf; subst hdf)
      all_goals
        go_wp2_with fail
        refine wp_region_still_tail 15 (by kernel_rfl) (by kernel_rfl) ?_
        simp only [List.take_succ_cons, List.take_zero, List.drop_succ_cons, List.drop_zero]
        repeat (first | still_step | still_call (bit_tS _) | still_call (bit_fS _))
        refine wpStill_nil ?_
        go_wp2_with fail
        go_roundw
        case rel => exact ⟨j + 1, by omega, by go_num, HNT.out _, HN7.out _, HN8.out _, HNX.out, by first | exact HNB.out _ | exact (HNB.out _).drew | exact below_drewN (HNB.out _) 1⟩
        case measure => simp [intOf]; omega
    · obtain rfl : j = 128 := by omega
      have hltI : ¬ ((128 : Nat) : Int) < 128 := by omega
      have hr := HRU.out wr g9 (diffB p q) (by rw [h9, diff_all])
      have HR := Lib.hid hr
      clear hb hT h7 h8 h9 hr
      go_wp2_with fail
      refine HR.out.mono ?_
      rintro e w3 ⟨v, out, rfl, hs, ho, hb3⟩
      have HS := Lib.hid hs
      have HO := Lib.hid (own_mono ho HB.out.size)
      have HB3 := Lib.hid (HB.out.trans (hb3.mono HB.out.size))
      clear hs ho hb3
      go_wp2_with fail
      go_ret
      first | exact ⟨_, out, rfl, HS.out, HO.out, HB3.out⟩ | exact ⟨_, rfl, out, HS.out, HO.out, HB3.out⟩

set_option maxRecDepth 100000 in
set_option maxHeartbeats 4000000 in
theorem xminus_any (w : World) (B : Nat) (a b : Option Addr) (c d : Nat) (l m : List Rn) (ha : Runs w B a l) (hb : Runs w B b m) (hB : B ≤ w.heap.size) (hl : l.length ≤ 1000000) (hm : m.length ≤ 1000000) :
    Calls Tryz.prog 81 #[.slice a l.length c, .slice b m.length d] w fun e w' => ∃ (v : Value) (out : List Rn), e = .returned v ∧ SetRs (diffB (memB (seqP l)) (memB (seqP m))) out ∧ w'.ownsRow w.heap.size 68 2 v out.length (refsF out) ∧ Below w.heap.size w w' := by
  have HMX := Lib.hid (xmix_any w B a b c d l m ha hb hB hl hm)
  clear ha hb
  go_enter Tryz.func81, Tryz.ntmps81
  go_wp2_with fail
  refine HMX.out.mono ?_
  rintro e w1 ⟨v, out, rfl, hs, ho, hb1⟩
  have HS := Lib.hid hs
  have HO := Lib.hid ho
  have HB1 := Lib.hid hb1
  clear hs ho hb1
  go_wp2_with fail
  go_ret
  first | exact ⟨_, out, rfl, HS.out, HO.out, HB1.out⟩ | exact ⟨_, rfl, out, HS.out, HO.out, HB1.out⟩
end

section
open Go.RowKit Go.Sort
attribute [local go_sem ↓] loadTab_down loadLab_down storeLab_down

theorem run_append_none_c {P : Program} {w : World} (base : Nat) (t ty e : TypeId) (i : TypeInfo) (size : Nat) (ht : P.underlying t = some (.slice e)) (hi : P.info? e = some i)
    (v : Value) (n : Nat) (xs : List Value) (hown : w.ownsRow base e size v n xs) (c : Nat) :
    (Builtin.append_ #[t, t] ty #[v, .slice none 0 c]).run P w = .ok v w := by
  rcases hown.2 with ⟨rfl, rfl⟩ | ⟨g, cap, cur, rfl, _, _, hnc, _⟩
  · simp [Builtin.append_, run_underlying ht, sizeOf, typeInfo, hi, Builtin.lenOf, Builtin.firstCells]
  · simp [Builtin.append_, run_underlying ht, sizeOf, typeInfo, hi, Builtin.lenOf, Builtin.firstCells, hnc, storeCells]
/-- A row of runs is appended to an own row. -/
theorem wpList_append_rn {P : Program} {w : World} {ops : Array Oper} {rest : List Oper} {o : Oper} {a : Act} {Q : Exit → Act → World → Prop} (hgd : o.guard = none) (s x : Operand) (t : TypeId)
    (ho : o.op = .call { callee := .builtin .append, args := #[s, x], argTypes := #[t, t] })
    (base : Nat) (e : TypeId) (i : TypeInfo) (z : Value) (size bytes : Nat) (ht : P.underlying t = some (.slice e)) (hi : P.info? e = some i) (hz : i.zero = some z)
    (hsize : i.size = size) (hby : i.bytes = bytes) (hzs : z.cells.size = size) (hsz : 0 < size)
    (v : Value) (n : Nat) (xs : List Value) (hs : a.eval s = v) (hown : w.ownsRow base e size v n xs)
    (ad : Option Addr) (m c : Nat) (news : List Value) (hx : a.eval x = .slice ad m c) (hl : news.length = m * size)
    (hnews : (∃ p, ad = some p ∧ ∀ (j : Nat) (u : Value), news[j]? = some u → w.cell? (p.add j) = some u) ∨ (ad = none ∧ m = 0)) (h1 : ∀ u ∈ news, u.oneCell' = true)
    (h63 : n + m ≤ maxLen) (hbytes : (n + m) * bytes ≤ 140737488355328) (hbase : base ≤ w.heap.size)
    (h : ∀ v' w', w'.ownsRow base e size v' (n + m) (xs ++ news) → w.grownBy w' v.ownBlock → wpList P ops Q rest (a.put o.dst v') w') : wpList P ops Q (o :: rest) a w := by
  rcases hnews with ⟨p, rfl, hc⟩ | ⟨rfl, rfl⟩
  · exact wpList_append_own w hgd s x t ho base e i z size bytes ht hi hz hsize hby hzs hsz v n xs hs hown p m c news hx hl hc h1 h63 hbytes hbase fun v' w' h2 h3 _ => h v' w' h2 h3
  · have hn : news = [] := List.length_eq_zero_iff.1 (by rw [hl]; simp)
    subst hn
    refine wpList_plain hgd fun K hK => ?_
    unfold Oper.wp execOp
    simp only [ho, resolve, invoke, builtin, Sem.run_bind, Sem.run_pure, Result.andThen_ok, List.map_toArray, List.map_cons, List.map_nil, hs, hx, run_append_none_c (P := P) base t o.type e i size ht hi v n xs hown c]
    exact hK _ _ (h v w (by rw [List.append_nil]; exact hown) ⟨rfl, rfl, rfl, Nat.le_refl _, fun _ _ _ => rfl⟩)
theorem setN_congr {p q : Nat → Bool} (h : ∀ i, i < 128 → p i = q i) : setN p = setN q :=
  List.filter_congr fun i hi => h i (List.mem_range.1 hi)
theorem SetRs.congr {p q : Nat → Bool} {out : List Rn} (h : SetRs p out) (e : ∀ i, i < 128 → p i = q i) : SetRs q out :=
  ⟨h.good, h.seq.trans (setN_congr e)⟩

set_option maxRecDepth 100000 in
set_option maxHeartbeats 4000000 in
theorem spacefree_any (w : World) (B : Nat) (b : Option Addr) (d : Nat) (m : List Rn) (f t : Int) (hb : Runs w B b m) (hB : B ≤ w.heap.size) (hm : m.length ≤ 1000000) (h0 : 0 ≤ f) (h1 : f < t) (h2 : t ≤ 128) :
    Calls Tryz.prog 51 #[.int .i64 f, .int .i64 t, .slice b m.length d] w fun e w' => ∃ (v : Value) (out : List Rn), e = .returned v ∧ SetRs (diffB (memB (seqP [(f, t - f)])) (memB (seqP m))) out ∧ w'.ownsRow w.heap.size 68 2 v out.length (refsF out) ∧ Below w.heap.size w w' := by
  have n1 : max 0 f = f := by omega
  have n2 : min 128 t = t := by omega
  have hok : okRn (f, t - f) := ⟨⟨by simp only; omega, by simp only; omega⟩, ⟨by simp only; omega, by simp only; omega⟩⟩
  have hbx := box_below w #[.int .i64 f, .int .i64 (t - f)] 68
  have HMX := Lib.hid (xminus_any (w.alloc (.cells #[.int .i64 f, .int .i64 (t - f)] 68)) (w.alloc (.cells #[.int .i64 f, .int .i64 (t - f)] 68)).heap.size (some ⟨w.heap.size, 0, none⟩) b 1 d [(f, t - f)] m (runs_lit w f (t - f) hok _) ((hb.below (hbx.mono hB)).mono (Nat.le_trans hB hbx.size)) (Nat.le_refl _) (by simp) hm)
  have HBX := Lib.hid hbx
  have h3 : ¬ t ≤ f := by omega
  have hsub : IntKind.i64.wrap (t - f) = t - f := IntWalk.i64_in _ (by omega)
  clear hb hok hbx
  go_enter Tryz.func51, Tryz.ntmps51
  go_wp2_with fail
  refine HMX.out.mono ?_
  rintro e w1 ⟨v, out, rfl, hs, ho, hb1⟩
  have HS := Lib.hid hs
  have HO := Lib.hid (own_mono ho HBX.out.size)
  have HB1 := Lib.hid (HBX.out.trans (hb1.mono HBX.out.size))
  clear hs ho hb1
  go_wp2_with fail
  go_ret
  first | exact ⟨_, out, rfl, HS.out, HO.out, HB1.out⟩ | exact ⟨_, rfl, out, HS.out, HO.out, HB1.out⟩

/-- All runs of a list of labels. -/
def extsP : List Lab → List Rn
  | [] => []
  | x :: l => x.ext ++ extsP l
theorem extsP_append : ∀ l m : List Lab, extsP (l ++ m) = extsP l ++ extsP m
  | [], _ => rfl
  | x :: l, m => by rw [List.cons_append, extsP, extsP, extsP_append l m, List.append_assoc]
theorem seq_exts : ∀ l : List Lab, seqP (extsP l) = allT l
  | [] => rfl
  | x :: l => by rw [extsP, seqP_append, allT, seq_exts l]
theorem extsP_len (k : Nat) : ∀ l : List Lab, (∀ x ∈ l, x.ext.length ≤ k) → (extsP l).length ≤ k * l.length
  | [], _ => by simp [extsP]
  | x :: l, h => by
    have h1 := h x (by simp)
    have h2 := extsP_len k l (fun y hy => h y (by simp [hy]))
    rw [extsP, List.length_append, List.length_cons, Nat.mul_add]
    omega
theorem free_eq {tr : Int} {l : List Lab} (h : 4 ≤ tr ∧ tr ≤ 128) (i : Nat) (_ : i < 128) : diffB (memB (seqP [(ttP tr, tr - ttP tr)])) (memB (seqP (extsP l))) i = freeB tr l i := by
  have htt : 0 ≤ ttP tr ∧ ttP tr ≤ 32 := by unfold ttP; rw [if_pos h]; omega
  have htl : ttP tr < tr := by unfold ttP; rw [if_pos h]; omega
  unfold diffB freeB
  rw [seq_exts, seq_one, clip_good (ttP tr, tr - ttP tr) ⟨htt.1, by simp only; omega, by simp only; omega⟩, ← Bool.and_assoc]
  congr 1
  unfold memB
  rw [Bool.eq_iff_iff]
  simp only [decide_eq_true_eq, Bool.and_eq_true, List.mem_range'_1]
  omega

set_option maxRecDepth 100000 in
set_option maxHeartbeats 8000000 in
theorem free_any (w : World) (B : Nat) (a : Option Addr) (cap : Nat) (nm : By) (tr : Int) (l : List Lab) (h : Labs w B a l) (hB : B ≤ w.heap.size) (hl : l.length ≤ 1000) (he : ∀ x ∈ l, x.ext.length ≤ 1000) (hn : nm.length ≤ 100) (hv : validB nm tr l = true) (hV : ValidT tr l) :
    Calls Tryz.prog 22 #[.agg (tabC nm tr a l.length cap)] w fun e w' => ∃ (v : Value) (out : List Rn), e = .returned v ∧ SetRs (freeB tr l) out ∧ w'.ownsRow w.heap.size 68 2 v out.length (refsF out) ∧ Below w.heap.size w w' := by
  obtain ⟨i0, hi0, hz0, hz1, hz2⟩ := info_parts infoRn
  obtain ⟨W0, hW0⟩ : ∃ W0, W0 = w.alloc (.cells (tabC nm tr a l.length cap) 24) := ⟨_, rfl⟩
  have hb0 : Below w.heap.size w W0 := by rw [hW0]; exact box_below w _ _
  have hd0 : W0.heap[w.heap.size]? = some (.cells (tabC nm tr a l.length cap) 24 (0, 0)) := by rw [hW0]; exact heap_alloc_new w _
  have HW0 := Lib.hid hW0
  have HB0 := Lib.hid hb0
  have HD0 := Lib.hid hd0
  have HL := Lib.hid h
  have HVA := Lib.hid (xvalid_any W0 B a cap nm tr l (h.below (hb0.mono hB)) (Nat.le_trans hB hb0.size) hl he hn)
  rw [hv] at HVA
  have HTT := Lib.hid (fun W => (tabletracks_any tr W).mono fun _ w' (hw : _ ∧ W = w') => show _ ∧ Below W.heap.size W w' from ⟨hw.1, hw.2 ▸ Below.refl _ _⟩)
  have htv := hV.tv
  have htt : 0 ≤ ttP tr ∧ ttP tr < tr := by unfold ttP; rw [if_pos htv]; omega
  have HSF := Lib.hid (fun W b d m (h1 : Runs W W.heap.size b m) (h2 : m.length ≤ 1000000) => spacefree_any W W.heap.size b d m (ttP tr) tr h1 (Nat.le_refl _) h2 htt.1 htt.2 htv.2)
  have HFE := Lib.hid (fun out (hs : SetRs (diffB (memB (seqP [(ttP tr, tr - ttP tr)])) (memB (seqP (extsP l)))) out) => hs.congr (free_eq htv))
  have HEL := Lib.hid (fun j => extsP_len 1000 (l.take j) (fun x hx => he x (List.mem_of_mem_take hx)))
  have HOKR := Lib.hid (show ∀ x ∈ l, ∀ r ∈ x.ext, okRn r from fun x hx r hr => by
    obtain ⟨i, hi, rfl⟩ := List.getElem_of_mem hx
    obtain ⟨b, off, _, _, hLA⟩ := h.get hi
    obtain ⟨ea, ec, _, hR⟩ := hLA.c4
    exact hR.ok r hr)
  have dl := loadTab_at hd0 rfl
  rw [hW0] at dl
  clear h hb0 hd0 hW0 htt
  go_enter Tryz.func22, Tryz.ntmps22
  go_wp2_with fail
  rw [← HW0.out]
  refine HVA.out.mono ?_
  rintro e w1 ⟨rfl, _, hb1⟩
  have HB1 := Lib.hid (HB0.out.trans (hb1.mono HB0.out.size))
  have hd1 := (hb1.block _ (lt_of_block HD0.out)).trans HD0.out
  have HD1 := Lib.hid hd1
  have t2 := cell_at (i := 2) (v := .slice a l.length cap) hd1 rfl
  clear hb1 hd1 dl
  go_wp2_with fail
  clear t2
  go_loopw [3, 12] (fun v k wr => ∃ j : Nat, j ≤ l.length ∧ k = .int .i64 j ∧ Below w1.heap.size w1 wr ∧ wr.ownsRow w1.heap.size 68 2 v (extsP (l.take j)).length (refsF (extsP (l.take j)))) (fun _ k _ => l.length - (intOf k).toNat)
  case atStart => exact ⟨0, by omega, rfl, Below.refl _ _, own_nil _ _ _ _⟩
  case round =>
    obtain ⟨j, hj, rfl, hb, ho⟩ := hrel
    have HB := Lib.hid hb
    have HBF := Lib.hid (HB1.out.trans (hb.mono HB1.out.size))
    obtain ⟨oa, oc, rfl⟩ := row_slice ho
    have hel := HEL.out j
    rw [List.length_take] at hel
    have hel2 : (extsP (l.take j)).length ≤ 1000000 := by omega
    by_cases hlt : j < l.length
    · obtain ⟨b, off, rfl, hbb, hLA⟩ := HL.out.get hlt
      have hla := hLA.below (HBF.out.mono hB) hbb
      have hxl := he l[j] (List.getElem_mem hlt)
      have HEX := Lib.hid (show extsP (l.take (j + 1)) = extsP (l.take j) ++ l[j].ext by rw [take_snoc' l j hlt, extsP_append]; simp [extsP])
      clear hLA hb
      generalize l[j] = x at HEX hla hxl
      obtain ⟨ea, ec, h4, hRX⟩ := hla.c4
      have hbw : b < wr.heap.size := block_lt_of_cell hla.c0
      have dl0 := loadLab_mid hla.c0 hla.c1 hla.c2 hla.c3 h4
      obtain ⟨W3, hW3⟩ : ∃ W3, W3 = (wr.alloc (.cells zeroV 43)).setRow wr.heap.size (labV x ea ec) := ⟨_, rfl⟩
      have st1 := storeLab_at (cs := labV x ea ec) (heap_alloc_new wr (.cells zeroV 43)) rfl rfl (by simp [Value.oneCell', sv])
      have hg3 : W3.heap[wr.heap.size]? = some (.cells (labV x ea ec) 43 (0, 0)) := by rw [hW3]; exact setRow_heap _ _ _ _ _ _ (heap_alloc_new _ _)
      have hb3 : Below wr.heap.size wr W3 := by rw [hW3]; exact Below.setRow (box_below _ _ _) (Nat.le_refl _) _
      rw [← hW3] at st1
      have c4 := cell_at (i := 4) (v := .slice ea x.ext.length ec) hg3 rfl
      have hR3 := hRX.below (hb3.mono (Nat.le_trans hB HBF.out.size))
      have hnews : (∃ p, ea = some p ∧ ∀ (j : Nat) (u : Value), (refsF x.ext)[j]? = some u → W3.cell? (p.add j) = some u) ∨ (ea = none ∧ x.ext.length = 0) := by
        cases ea with
        | some p => exact Or.inl ⟨p, rfl, rn_news hR3⟩
        | none =>
          refine Or.inr ⟨rfl, ?_⟩
          rcases hx : x.ext with _ | ⟨r, t⟩
          · rfl
          · obtain ⟨_, _, hn, _⟩ := hR3.cells (by rw [hx]; simp)
            cases hn
      have HNW := Lib.hid hnews
      have hlow := own_below ho hb3
      have HB3 := Lib.hid (HB.out.trans (hb3.mono HB.out.size))
      have HOR := Lib.hid (one_refs x.ext)
      have HRL := Lib.hid (refsF_len x.ext)
      clear hla h4 hRX hW3 hg3 hb3 hR3 hnews ho
      simp only [labV, zeroV] at dl0 st1
      generalize hxe : x.ext = X at *
      go_wp2_with (refine wpList_append_rn rfl _ _ 41 rfl w1.heap.size 68 i0 (.agg #[.int .i64 0, .int .i64 0]) 2 16 Tryz.underlying41 hi0 hz0 hz1 hz2 rfl (by decide) _ _ _ rfl hlow ea X.length ec (refsF X) rfl HRL.out HNW.out HOR.out ?b3 ?b4 ?b5 ?_)
      try (case b3 => unfold maxLen; omega)
      try (case b4 => omega)
      try (case b5 => have := HB3.out.size; omega)
      intro v6 w6 ho6 hg6
      have HB6 := Lib.hid (HB3.out.grown hg6 HB3.out.size (fun k hk => row_own hlow hk))
      have HO6 := Lib.hid (show w6.ownsRow w1.heap.size 68 2 v6 (extsP (l.take (j + 1))).length (refsF (extsP (l.take (j + 1)))) by rw [HEX.out, List.length_append, refsF_append]; exact ho6)
      clear ho6 hg6 hlow c4
      go_wp2_with fail
      go_roundw
      case rel => exact ⟨j + 1, by omega, by go_num, HB6.out, HO6.out⟩
      case measure => simp [intOf]; omega
    · obtain rfl : j = l.length := by omega
      rw [List.take_length] at ho hel2 ⊢
      obtain ⟨a', c', he', hR'⟩ := runs_of_row ho (fun r hr => by
        have : ∀ m : List Lab, (∀ x ∈ m, x ∈ l) → r ∈ extsP m → okRn r := by
          intro m
          induction m with
          | nil => intro _ h; simp [extsP] at h
          | cons x m ih =>
            intro hm h
            rw [extsP] at h
            rcases List.mem_append.1 h with h | h
            · exact HOKR.out x (hm x (by simp)) r h
            · exact ih (fun y hy => hm y (by simp [hy])) h
        exact this l (fun x hx => hx) hr)
      obtain ⟨rfl, rfl⟩ : oa = a' ∧ oc = c' := by injection he' with e1 e2 e3; exact ⟨e1, e3⟩
      have hd := (hb.block _ (lt_of_block HD1.out)).trans HD1.out
      have t1 := cell_at (i := 1) (v := .int .i64 tr) hd rfl
      have HS := Lib.hid (fun W (hb : Below wr.heap.size wr W) => HSF.out W oa oc (extsP l) ((hR'.below hb).mono hb.size) hel2)
      have hltI : ¬ (l.length : Int) < (l.length : Int) := by omega
      generalize extsP l = X at HS HFE hel2 ⊢
      clear hb ho hR' he' hd
      go_wp2_with fail
      first
      | go_region_law
          (first
            | (go_simp
               (with_reducible refine (HTT.out _).mono ?_)
               rintro e w5 ⟨rfl, hb5⟩
               have HB5 := Lib.hid (((Below.refl wr.heap.size wr).drew).trans hb5)
               have HS5 := Lib.hid (HS.out w5 HB5.out)
               have t1b := (HB5.out.cell (block_lt_of_cell t1)).trans t1
               clear hb5)
            | (go_simp
               (with_reducible refine HS5.out.mono ?_)
               rintro e w6 ⟨v, out, rfl, hs, ho, hb6⟩
               have HSS := Lib.hid (HFE.out out hs)
               have HO := Lib.hid (own_mono ho (Nat.le_trans HBF.out.size HB5.out.size))
               have HB6 := Lib.hid (HBF.out.trans ((HB5.out.trans (hb6.mono HB5.out.size)).mono HBF.out.size))
               clear hs ho hb6))
      | fail
      all_goals
        go_wp2_with fail
        go_ret
        first | exact ⟨_, out, rfl, HSS.out, HO.out, HB6.out⟩ | exact ⟨_, rfl, out, HSS.out, HO.out, HB6.out⟩
end

section
open Go.RowKit Go.Sort
attribute [local go_sem ↓] loadTab_down loadSc_down storeSc_down

theorem few_tabP {nm : By} {l : List Lab} (h : fewTab nm l = true) : l.length ≤ 40 ∧ (∀ x ∈ l, x.ext.length ≤ 30) ∧ nm.length ≤ 100 := by
  simp only [fewTab, Bool.and_eq_true, decide_eq_true_eq, List.all_eq_true, fewLab] at h
  exact ⟨h.2, fun x hx => (h.1.1 x hx).2, h.1.2⟩
theorem own_zero {w : World} {base : Nat} {e : TypeId} {k : Nat} {v : Value} {xs : List Value} {n : Nat} (h : w.ownsRow base e k v n xs) (hn : n = 0) : ∃ a c, v = .slice a 0 c := by
  subst hn
  exact row_slice h

set_option maxRecDepth 100000 in
set_option maxHeartbeats 8000000 in
theorem law_partition (w : World) (B : Nat) (a : Option Addr) (cap : Nat) (nm : By) (tr : Int) (l : List Lab) (h : Labs w B a l) (hB : B ≤ w.heap.size) (htab : TabB B w)
    (hl : l.length ≤ 9223372036854775807) (hn : nm.length ≤ 9223372036854775807) (he : ∀ x ∈ l, x.ext.length ≤ 9223372036854775807) :
    Calls Tryz.prog 5 #[.agg (tabC nm tr a l.length cap)] w fun e w' => e = .returned (.bool true) ∧ Below w.heap.size w w' := by
  obtain ⟨W0, hW0⟩ : ∃ W0, W0 = w.alloc (.cells (tabC nm tr a l.length cap) 24) := ⟨_, rfl⟩
  have hb0 : Below w.heap.size w W0 := by rw [hW0]; exact box_below w _ _
  have hd0 : W0.heap[w.heap.size]? = some (.cells (tabC nm tr a l.length cap) 24 (0, 0)) := by rw [hW0]; exact heap_alloc_new w _
  have HB0 := Lib.hid hb0
  have HD0 := Lib.hid hd0
  have HL := Lib.hid h
  have HAW := Lib.hid (fun W (hb : Below w.heap.size w W) => awake_any W B (htab.on (hb.mono hB)) (Nat.le_trans hB hb.size))
  have HFW := Lib.hid (fun W (hb : Below w.heap.size w W) => few8_any W B a cap nm tr l (h.below (hb.mono hB)) (Nat.le_trans hB hb.size) hl hn he)
  have HW0 := Lib.hid hW0
  cases hf : fewTab nm l with
  | false =>
    rw [hf] at HFW
    clear h hW0 htab hd0 hb0
    go_enter Tryz.func5, Tryz.ntmps5
    go_wp2_with fail
    rw [← HW0.out]
    refine (HAW.out W0 HB0.out).mono ?_
    rintro e w1 ⟨rfl, hb1⟩
    have HB1 := Lib.hid (HB0.out.trans (hb1.mono HB0.out.size))
    have hd1 := (hb1.block w.heap.size (lt_of_block HD0.out)).trans HD0.out
    have dl1 := loadTab_at hd1 rfl
    clear hb1 hd1
    go_wp2_with fail
    refine (HFW.out w1 HB1.out).mono ?_
    rintro e w2 ⟨rfl, hb2⟩
    have HB2 := Lib.hid (HB1.out.trans (hb2.mono HB1.out.size))
    clear hb2 dl1
    go_wp2_with fail
    refine (HAW.out w2 HB2.out).mono ?_
    rintro e w3 ⟨rfl, hb3⟩
    have HB3 := Lib.hid (HB2.out.trans (hb3.mono HB2.out.size))
    clear hb3
    go_wp2_with fail
    go_ret
    exact ⟨rfl, HB3.out⟩
  | true =>
    rw [hf] at HFW
    obtain ⟨hl40, he30, hn100⟩ := few_tabP hf
    have he1000 : ∀ x ∈ l, x.ext.length ≤ 1000 := fun x hx => Nat.le_trans (he30 x hx) (by omega)
    have HVA := Lib.hid (fun W (hb : Below w.heap.size w W) => xvalid_any W B a cap nm tr l (h.below (hb.mono hB)) (Nat.le_trans hB hb.size) (by omega) he1000 hn100)
    have HTA := Lib.hid (fun W (hb : Below w.heap.size w W) => table_any W B a cap nm tr l (h.below (hb.mono hB)) (Nat.le_trans hB hb.size) (by omega) he1000)
    have HFR := Lib.hid (fun W (hb : Below w.heap.size w W) hv hV => free_any W B a cap nm tr l (h.below (hb.mono hB)) (Nat.le_trans hB hb.size) (by omega) he1000 hn100 hv hV)
    have HMP := Lib.hid (fun W (hb : Below w.heap.size w W) => smap_any W B a cap nm tr l (h.below (hb.mono hB)) (Nat.le_trans hB hb.size) (by omega) (fun x hx => Nat.le_trans (he30 x hx) (by omega)))
    have HRT := Lib.hid (fun W => rtabletracks_any tr W)
    have HRB := Lib.hid (fun W => (rtabletracks_any tr W).mono fun _ w' (hw : _ ∧ W = w') => show _ ∧ Below W.heap.size W w' from ⟨hw.1, hw.2 ▸ Below.refl _ _⟩)
    clear h hW0 htab hd0 hb0
    go_enter Tryz.func5, Tryz.ntmps5
    go_wp2_with fail
    rw [← HW0.out]
    refine (HAW.out W0 HB0.out).mono ?_
    rintro e w1 ⟨rfl, hb1⟩
    have HB1 := Lib.hid (HB0.out.trans (hb1.mono HB0.out.size))
    have HD1 := Lib.hid ((hb1.block w.heap.size (lt_of_block HD0.out)).trans HD0.out)
    have dl1 := loadTab_at HD1.out rfl
    clear hb1
    go_wp2_with fail
    refine (HFW.out w1 HB1.out).mono ?_
    rintro e w2 ⟨rfl, hb2⟩
    have HB2 := Lib.hid (HB1.out.trans (hb2.mono HB1.out.size))
    have HD2 := Lib.hid ((hb2.block w.heap.size (lt_of_block HD1.out)).trans HD1.out)
    have dl2 := loadTab_at HD2.out rfl
    clear hb2 dl1
    go_wp2_with fail
    refine (HVA.out w2 HB2.out).mono ?_
    rintro e w3 ⟨rfl, hvt, hb3⟩
    have HB3 := Lib.hid (HB2.out.trans (hb3.mono HB2.out.size))
    have HD3 := Lib.hid ((hb3.block w.heap.size (lt_of_block HD2.out)).trans HD2.out)
    clear hb3 dl2
    have HFR2 := Lib.hid (fun W hb (hv : validB nm tr l = true) => HFR.out W hb hv (hvt hv))
    generalize validB nm tr l = q at hvt HFR2
    cases q with
    | false =>
      clear hvt
      go_wp2_with fail
      refine (HAW.out w3 HB3.out).mono ?_
      rintro e w4 ⟨rfl, hb4⟩
      have HB4 := Lib.hid (HB3.out.trans (hb4.mono HB3.out.size))
      clear hb4
      go_wp2_with fail
      go_ret
      exact ⟨rfl, HB4.out⟩
    | true =>
      have hV : ValidT tr l := hvt rfl
      have HV := Lib.hid hV
      have dl3 := loadTab_at HD3.out rfl
      have htv := hV.tv
      have HSP := Lib.hid (show (sharedP l).length = 0 by unfold sharedP; rw [shared_nil hV.tracks]; rfl)
      have HFU := Lib.hid (free_used htv (l := l))
      have HFL := Lib.hid (free_len htv (l := l))
      have htt : 0 ≤ ttP tr ∧ ttP tr ≤ 32 := by unfold ttP; rw [if_pos htv]; omega
      have HML := Lib.hid (show ((mapP tr l).length : Int) = tr by rw [mapP_len]; unfold trP; rw [if_pos htv]; omega)
      have HMG := Lib.hid (fun i h => mapP_get tr l i h)
      have HMV := Lib.hid (fun (i : Nat) (hi : (i : Int) < tr) => hV.map i hi)
      clear hvt hV
      go_wp2_with fail
      refine (HTA.out w3 HB3.out).mono ?_
      rintro e w4 ⟨V2, V3, rfl, ho2, ho3, hb4⟩
      obtain ⟨a2, c2, rfl⟩ := row_slice ho2
      obtain ⟨a3, c3, rfl⟩ := own_zero ho3 HSP.out
      have hfn : (freeN tr l : Int) ≤ 128 ∧ (usedN tr l : Int) ≤ 128 := by have := HFU.out; omega
      generalize (tentP l).length = n2 at ho2
      have HSZ := Lib.hid (fun W B2 ea ec X (hR : Runs W B2 ea X) (hB2 : B2 ≤ W.heap.size) (hX : X.length ≤ 1000000) => size_any W B2 ea ec X hR hB2 hX)
      have HB4 := Lib.hid (HB3.out.trans (hb4.mono HB3.out.size))
      have hd4 := (hb4.block w.heap.size (lt_of_block HD3.out)).trans HD3.out
      obtain ⟨tt, htt2⟩ : ∃ tt, tt = ttP tr := ⟨_, rfl⟩
      rw [← htt2] at htt HFU HMV HRT HRB
      generalize freeN tr l = F at HFU HFL hfn ⊢
      generalize usedN tr l = U at HFU hfn ⊢
      obtain ⟨S, hS⟩ : ∃ S, S = tr - tt := ⟨_, rfl⟩
      have hadd : IntKind.i64.wrap ((F : Int) + (U : Int)) = S := by rw [HFU.out, ← hS]; exact IntWalk.i64_in _ (by omega)
      have hsub : IntKind.i64.wrap (tr - tt) = S := by rw [← hS]; exact IntWalk.i64_in _ (by omega)
      obtain ⟨W5, hW5⟩ : ∃ W5, W5 = (w4.alloc (.cells #[.int .i64 0, .int .i64 0, .slice none 0 0, .slice none 0 0, .slice none 0 0] 29)).setRow w4.heap.size (scV F U (.slice a2 n2 c2) (.slice a3 0 c3)) := ⟨_, rfl⟩
      have st5 := storeSc_at (cs := scV F U (.slice a2 n2 c2) (.slice a3 0 c3)) (heap_alloc_new w4 (.cells #[.int .i64 0, .int .i64 0, .slice none 0 0, .slice none 0 0, .slice none 0 0] 29)) rfl rfl (by simp [Value.oneCell'])
      have hg5 : W5.heap[w4.heap.size]? = some (.cells (scV F U (.slice a2 n2 c2) (.slice a3 0 c3)) 29 (0, 0)) := by rw [hW5]; exact setRow_heap _ _ _ _ _ _ (heap_alloc_new _ _)
      have hb45 : Below w4.heap.size w4 W5 := by rw [hW5]; exact Below.setRow (box_below _ _ _) (Nat.le_refl _) _
      rw [← hW5] at st5
      have HB5 := Lib.hid (HB4.out.trans (hb45.mono HB4.out.size))
      have HG5 := Lib.hid hg5
      have HD5 := Lib.hid ((hb45.block _ (lt_of_block hd4)).trans hd4)
      have dl5 := loadTab_at HD5.out rfl
      clear hW5 hg5 hb45 hd4 hb4 ho2 ho3 dl3 htt2 hS
      go_wp2_with fail
      refine (HFR2.out W5 HB5.out (by first | rfl | trivial)).mono ?_
      rintro e w6 ⟨v6, out, rfl, hs, ho, hb6⟩
      have HB6 := Lib.hid (HB5.out.trans (hb6.mono HB5.out.size))
      have hg6 := (hb6.block _ (lt_of_block HG5.out)).trans HG5.out
      have hd6 := (hb6.block _ (lt_of_block HD5.out)).trans HD5.out
      obtain ⟨fa, fc, rfl, hro⟩ := runs_of_row ho (fun r hr => good_ok (hs.good.all r hr))
      have hol : out.length ≤ 1000000 := Nat.le_trans hs.good.len (by omega)
      have HSQ := Lib.hid (show (seqP out).length = F by rw [hs.seq]; exact HFL.out)
      have HCN := Lib.hid (fun W (hb : Below w6.heap.size w6 W) (j : Nat) (hj : j < 128) => show Calls Tryz.prog 25 #[.slice fa out.length fc, .int .i64 j] W fun e w' => e = .returned (.bool (freeB tr l j)) ∧ Below W.heap.size W w' by
        rw [← idx_isSome_set (freeB tr l) out hs.seq j hj]
        exact xcontains_any W w6.heap.size fa fc out (j : Int) (hro.below hb) hb.size hol ⟨by omega, by omega⟩)
      have HSZJ := Lib.hid (fun d os => show Calls Tryz.prog 21 #[.slice fa out.length fc] (grow (redrawn w6 d) os) fun e w' => e = .returned (.int .i64 F) ∧ Below (grow (redrawn w6 d) os).heap.size (grow (redrawn w6 d) os) w' by
        rw [← HSQ.out]
        exact HSZ.out (grow (redrawn w6 d) os) w6.heap.size fa fc out (hro.below (below_regrown _ _ _)) (below_regrown _ _ _).size hol)
      have x0 := cell_at (i := 0) (v := .int .i64 F) hg6 rfl
      have x1 := cell_at (i := 1) (v := .int .i64 U) hg6 rfl
      have x3 := cell_at (i := 3) (v := .slice a3 0 c3) hg6 rfl
      have x4 := cell_at (i := 4) (v := .slice none 0 0) hg6 rfl
      have t1 := cell_at (i := 1) (v := .int .i64 tr) hd6 rfl
      have X0 := fun d os => cell_regrown x0 d os
      have X1 := fun d os => cell_regrown x1 d os
      have X3 := fun d os => cell_regrown x3 d os
      have X4 := fun d os => cell_regrown x4 d os
      have T1 := fun d os => cell_regrown t1 d os
      have HD6 := Lib.hid hd6
      clear hb6 ho hs hro hg6 hd6 dl5 st5
      go_wp2_with fail
      refine wp_region_quiet_below (by kernel_rfl) (by kernel_rfl) ?_
      repeat (go_big_quiet_step ((first | (go_at_call 21; exact Calls.regrown_of (HSZJ.out _ _)) | (go_at_call 23; exact Calls.regrown_of (HRB.out _)))))
      refine wpQuiet_nil ?_
      intro _ hw'
      obtain ⟨⟨dq, osq⟩, hw''⟩ := hw'
      subst hw''
      have hbg := below_regrown w6 dq osq
      have HB7 := Lib.hid (HB6.out.trans (hbg.mono HB6.out.size))
      have HD7 := Lib.hid ((hbg.block _ (lt_of_block HD6.out)).trans HD6.out)
      have HB67 := Lib.hid hbg
      generalize grow (redrawn w6 dq) osq = w7 at HB7 HD7 HB67 ⊢
      have dl7 := loadTab_at HD7.out rfl
      clear hbg X0 X1 X3 X4 T1 x0 x1 x3 x4 t1 hadd hsub
      go_wp2_with fail
      refine (HMP.out w7 HB7.out).mono ?_
      rintro e w8 ⟨v8, rfl, ho8, hb8⟩
      obtain ⟨a8, c8, rfl, hi8⟩ := ints_of_row ho8
      have HI8 := Lib.hid hi8
      have HB8 := Lib.hid (HB7.out.trans (hb8.mono HB7.out.size))
      have HB68 := Lib.hid (HB67.out.trans (hb8.mono HB67.out.size))
      have HD8 := Lib.hid ((hb8.block _ (lt_of_block HD7.out)).trans HD7.out)
      have t1 := cell_at (i := 1) (v := .int .i64 tr) HD8.out rfl
      have hml := HML.out
      have HMGG := Lib.hid (fun (i : Nat) (hi : i < (mapP tr l).length) => HMG.out i hi)
      generalize mapP tr l = MP at HI8 hml HMGG ⊢
      have hne : ((MP.length : Int) != tr) = false := by simp [hml]
      clear ho8 hi8 hb8 dl7
      go_wp2_with fail
      clear t1
      go_loopw [65] (fun k wr => ∃ j : Nat, j ≤ MP.length ∧ k = .int .i64 j ∧ Below w8.heap.size w8 wr) (fun k _ => MP.length - (intOf k).toNat)
      case atStart => exact ⟨0, by omega, rfl, Below.refl _ _⟩
      case round =>
        obtain ⟨j, hj, rfl, hb⟩ := hrel
        have HBN := Lib.hid hb
        have HBF := Lib.hid (HB8.out.trans (hb.mono HB8.out.size))
        have HB6N := Lib.hid (HB68.out.trans (hb.mono HB68.out.size))
        have HD := Lib.hid ((hb.block _ (lt_of_block HD8.out)).trans HD8.out)
        by_cases hlt : j < MP.length
        · have hltI : (j : Int) < (MP.length : Int) := by omega
          have hjt : (j : Int) < tr := by omega
          have hj128 : j < 128 := by omega
          obtain ⟨b, off, rfl, hbb, hc⟩ := HI8.out.get hlt
          have cj := (hb.cell (p := ⟨b, off + j, none⟩) hbb).trans hc
          rw [HMGG.out j hlt] at cj
          obtain ⟨hm0, hm1⟩ := HMV.out j hjt
          have hfb : freeB tr l j = true → tt ≤ (j : Int) := by
            intro e
            rcases Int.lt_or_le (j : Int) tt with h | h
            · have e1 := hm1.2 h
              have e2 := hm0.2 e
              rw [e1] at e2
              exact absurd e2 (by decide)
            · exact h
          have HCJ := Lib.hid (HCN.out wr HB6N.out j hj128)
          clear hb hc
          generalize mapV tr l j = mv at cj hm0 hm1
          generalize freeB tr l j = fb at hm0 hfb HCJ
          have HT := Lib.hid (fun W => HRT.out W)
          have HJN := Lib.hid hjt
          cases fb with
          | true =>
            obtain rfl : mv = 0 := hm0.2 rfl
            have hjtt : ¬ (j : Int) < tt := by have := hfb rfl; omega
            clear hm0 hm1 hfb hjt
            go_wp2_with fail
            refine HCJ.out.mono ?_
            rintro e w9 ⟨rfl, hb9⟩
            have HB9 := Lib.hid (HBN.out.trans (hb9.mono HBN.out.size))
            have t1 := cell_at (i := 1) (v := .int .i64 tr) ((hb9.block _ (lt_of_block HD.out)).trans HD.out) rfl
            clear hb9
            go_wp2_with fail
            refine (HT.out _).mono ?_
            rintro e w10 ⟨rfl, hw⟩
            subst hw
            go_wp2_with fail
            go_roundw
            case rel => exact ⟨j + 1, by omega, by go_num, HB9.out⟩
            case measure => simp [intOf]; omega
          | false =>
            have hmne : mv ≠ 0 := fun e => by have := hm0.1 e; cases this
            have e0 : (mv == 0) = false := by simp [hmne]
            by_cases hjtt : (j : Int) < tt
            · obtain rfl : mv = -1 := hm1.2 hjtt
              clear hm0 hm1 hfb hjt hmne e0
              go_wp2_with fail
              refine HCJ.out.mono ?_
              rintro e w9 ⟨rfl, hb9⟩
              have HB9 := Lib.hid (HBN.out.trans (hb9.mono HBN.out.size))
              have t1 := cell_at (i := 1) (v := .int .i64 tr) ((hb9.block _ (lt_of_block HD.out)).trans HD.out) rfl
              clear hb9
              go_wp2_with fail
              refine (HT.out _).mono ?_
              rintro e w10 ⟨rfl, hw⟩
              subst hw
              go_wp2_with fail
              go_roundw
              case rel => exact ⟨j + 1, by omega, by go_num, HB9.out⟩
              case measure => simp [intOf]; omega
            · have hmn1 : mv ≠ -1 := fun e => hjtt (hm1.1 e)
              have e1 : (mv == -1) = false := by simp [hmn1]
              clear hm0 hm1 hfb hjt
              go_wp2_with fail
              refine HCJ.out.mono ?_
              rintro e w9 ⟨rfl, hb9⟩
              have HB9 := Lib.hid (HBN.out.trans (hb9.mono HBN.out.size))
              have t1 := cell_at (i := 1) (v := .int .i64 tr) ((hb9.block _ (lt_of_block HD.out)).trans HD.out) rfl
              clear hb9
              go_wp2_with fail
              refine (HT.out _).mono ?_
              rintro e w10 ⟨rfl, hw⟩
              subst hw
              go_wp2_with fail
              go_roundw
              case rel => exact ⟨j + 1, by omega, by go_num, HB9.out⟩
              case measure => simp [intOf]; omega
        · have hltI : ¬ (j : Int) < (MP.length : Int) := by omega
          clear hb
          go_wp2_with fail
          go_ret
          exact ⟨rfl, HBF.out⟩
end

end Go.Proofs.YtcidbmldbikknaaGreatDoor

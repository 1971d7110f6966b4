/-
  Walks: the order of references, whether two lists of references are equal, how often a track occurs, by the reference. Conditions: in memory; numbers of 64 bits.
-/
import Derived.Test.YtcidbmldbikknaaGreatDoorE23
namespace Go.Proofs.YtcidbmldbikknaaGreatDoor
open Go.RowKit Go.Sort
attribute [local go_sem ↓] loadRef_down storeRef_down loadTab_down

def lessR (x y : Rn) : Bool := decide (x.1 < y.1 ∨ x.1 = y.1 ∧ x.2 < y.2)
set_option maxRecDepth 100000 in
set_option maxHeartbeats 1000000 in
theorem less_any (x y : Rn) (w : World) : Calls Tryz.prog 61 #[.agg #[.int .i64 x.1, .int .i64 x.2], .agg #[.int .i64 y.1, .int .i64 y.2]] w fun e w' => e = .returned (.bool (lessR x y)) ∧ Below w.heap.size w w' := by
  obtain ⟨x1, x2⟩ := x
  obtain ⟨y1, y2⟩ := y
  have HB := Lib.hid (two_below w #[.int .i64 x1, .int .i64 x2] #[.int .i64 y1, .int .i64 y2] 40 40)
  have hg0 := (halloc _ (.cells #[.int .i64 y1, .int .i64 y2] 40) (by simp)).trans (heap_alloc_new w (.cells #[.int .i64 x1, .int .i64 x2] 40))
  have hg1 := two_new w #[.int .i64 x1, .int .i64 x2] #[.int .i64 y1, .int .i64 y2] 40 40
  have a0 := cell_at (i := 0) (v := .int .i64 x1) hg0 rfl
  have a1 := cell_at (i := 1) (v := .int .i64 x2) hg0 rfl
  have b0 := cell_at (i := 0) (v := .int .i64 y1) hg1 rfl
  have b1 := cell_at (i := 1) (v := .int .i64 y2) hg1 rfl
  have HF := Lib.hid (show lessR (x1, x2) (y1, y2) = decide (x1 < y1 ∨ x1 = y1 ∧ x2 < y2) from rfl)
  generalize lessR (x1, x2) (y1, y2) = q at HF ⊢
  clear hg0 hg1
  by_cases h1 : x1 < y1
  · have HQ := Lib.hid (show q = true by rw [HF.out, decide_eq_true (Or.inl h1)])
    clear HF
    go_enter Tryz.func61, Tryz.ntmps61
    go_wp2_with fail
    go_ret
    rw [HQ.out]
    exact ⟨rfl, HB.out⟩
  · by_cases h2 : x1 = y1
    · subst h2
      by_cases h3 : x2 < y2
      · have HQ := Lib.hid (show q = true by rw [HF.out, decide_eq_true (Or.inr ⟨rfl, h3⟩)])
        clear HF
        go_enter Tryz.func61, Tryz.ntmps61
        go_wp2_with fail
        go_ret
        rw [HQ.out]
        exact ⟨rfl, HB.out⟩
      · have HQ := Lib.hid (show q = false by rw [HF.out, decide_eq_false (by omega)])
        clear HF
        go_enter Tryz.func61, Tryz.ntmps61
        go_wp2_with fail
        go_ret
        rw [HQ.out]
        exact ⟨rfl, HB.out⟩
    · have HQ := Lib.hid (show q = false by rw [HF.out, decide_eq_false (by omega)])
      clear HF
      have hb : (x1 == y1) = false := by simpa using h2
      go_enter Tryz.func61, Tryz.ntmps61
      go_wp2_with fail
      go_ret
      rw [HQ.out]
      exact ⟨rfl, HB.out⟩

set_option maxRecDepth 100000 in
set_option maxHeartbeats 2000000 in
theorem samerefs_any (w : World) (B B2 : Nat) (a b : Option Addr) (c d : Nat) (l : List Rn) (ha : Runs w B a l) (hb : Runs w B2 b l) (hl : l.length ≤ 4000000000) :
    Calls Tryz.prog 29 #[.slice a l.length c, .slice b l.length d] w fun e w' => e = .returned (.bool true) ∧ Below w.heap.size w w' := by
  go_enter Tryz.func29, Tryz.ntmps29
  go_wp2_with fail
  go_loopw [5] (fun k wr => ∃ j : Nat, j ≤ l.length ∧ k = .int .i64 j ∧ Below w.heap.size w wr) (fun k _ => l.length - (intOf k).toNat)
  case atStart => exact ⟨0, by omega, rfl, Below.refl _ _⟩
  case round =>
    obtain ⟨j, hj, rfl, hbw⟩ := hrel
    have HBW := Lib.hid hbw
    by_cases hlt : j < l.length
    · have hltI : (j : Int) < (l.length : Int) := by omega
      obtain ⟨b1, o1, rfl, _, x1, x2⟩ := ha.get hlt
      obtain ⟨b2, o2, rfl, _, y1, y2⟩ := hb.get hlt
      replace x1 := (hbw.cell (block_lt_of_cell x1)).trans x1
      replace x2 := (hbw.cell (block_lt_of_cell x2)).trans x2
      replace y1 := (hbw.cell (block_lt_of_cell y1)).trans y1
      replace y2 := (hbw.cell (block_lt_of_cell y2)).trans y2
      clear hbw
      generalize l[j] = r at x1 x2 y1 y2
      obtain ⟨p, q⟩ := r
      simp only at x1 x2 y1 y2
      have d1 : (loadRef ⟨b1, o1 + j * 2, none⟩).run Tryz.prog wr.drew = .ok (.agg #[.int .i64 p, .int .i64 q]) wr.drew := loadRef_mid (w := wr.drew) x1 x2
      have d2 : (loadRef ⟨b2, o2 + j * 2, none⟩).run Tryz.prog wr.drew = .ok (.agg #[.int .i64 p, .int .i64 q]) wr.drew := loadRef_mid (w := wr.drew) y1 y2
      clear x1 x2 y1 y2
      go_wp2_with fail
      go_region
      go_wp2_with fail
      go_roundw
      case rel => exact ⟨j + 1, by omega, by go_num, below_drewN HBW.out 1⟩
      case measure => simp [intOf]; omega
    · have hltI : ¬ (j : Int) < (l.length : Int) := by omega
      clear hbw
      go_wp2_with fail
      go_ret
      exact ⟨rfl, HBW.out⟩

/-- How often a track occurs in the labels. -/
def timesP (l : List Lab) (t : Int) : Nat := ((allT l).filter fun (x : Nat) => decide ((x : Int) = t)).length
def cntT (s : List Nat) (t : Int) : Nat := (s.filter fun (x : Nat) => decide ((x : Int) = t)).length
theorem cntT_nil (t : Int) : cntT [] t = 0 := rfl
theorem cntT_cons (x : Nat) (s : List Nat) (t : Int) : cntT (x :: s) t = (if (x : Int) = t then 1 else 0) + cntT s t := by
  unfold cntT
  by_cases h : (x : Int) = t
  · rw [List.filter_cons_of_pos (by simpa using h), if_pos h, List.length_cons]; omega
  · rw [List.filter_cons_of_neg (by simpa using h), if_neg h]; omega
theorem cntT_append (s r : List Nat) (t : Int) : cntT (s ++ r) t = cntT s t + cntT r t := by simp [cntT]
theorem cntT_le (s : List Nat) (t : Int) : cntT s t ≤ s.length := List.length_filter_le _ _

set_option maxRecDepth 100000 in
set_option maxHeartbeats 4000000 in
theorem times_any (w : World) (B : Nat) (a : Option Addr) (cap : Nat) (nm : By) (tr : Int) (l : List Lab) (t : Int) (h : Labs w B a l) (hB : B ≤ w.heap.size) (hl : l.length ≤ 1000) (he : ∀ x ∈ l, x.ext.length ≤ 1000) :
    Calls Tryz.prog 35 #[.agg (tabC nm tr a l.length cap), .int .i64 t] w fun e w' => e = .returned (.int .i64 (timesP l t)) ∧ Below w.heap.size w w' := by
  obtain ⟨W0, hW0⟩ : ∃ W0, W0 = w.alloc (.cells (tabC nm tr a l.length cap) 24) := ⟨_, rfl⟩
  have hb0 : Below w.heap.size w W0 := by rw [hW0]; exact box_below w _ _
  have hd0 : W0.heap[w.heap.size]? = some (.cells (tabC nm tr a l.length cap) 24 (0, 0)) := by rw [hW0]; exact heap_alloc_new w _
  have HB0 := Lib.hid hb0
  have HD0 := Lib.hid hd0
  have HL := Lib.hid h
  have HE := Lib.hid he
  have HW0 := Lib.hid hW0
  have HT0 := Lib.hid (show timesP l t = 0 + cntT (allT (l.drop 0)) t by simp [timesP, cntT])
  generalize timesP l t = T at HT0 ⊢
  clear h hW0 hd0 hb0 he
  go_enter Tryz.func35, Tryz.ntmps35
  go_wp2_with fail
  rw [← HW0.out]
  go_loopw [5, 6] (fun c k wr => ∃ j n : Nat, j ≤ l.length ∧ k = .int .i64 j ∧ c = .int .i64 n ∧ n ≤ j * 128000 ∧ T = n + cntT (allT (l.drop j)) t ∧ Below W0.heap.size W0 wr) (fun _ k _ => l.length - (intOf k).toNat)
  case atStart => exact ⟨0, 0, by omega, rfl, rfl, by omega, HT0.out, Below.refl _ _⟩
  case round =>
    clear HT0
    obtain ⟨j, n, hj, rfl, rfl, hn, hT, hb⟩ := hrel
    have HB := Lib.hid hb
    have hd := (hb.block w.heap.size (lt_of_block HD0.out)).trans HD0.out
    have t2 := cell_at (i := 2) (v := .slice a l.length cap) hd rfl
    have HBF := Lib.hid (HB0.out.trans (hb.mono HB0.out.size))
    clear hb hd
    by_cases hlt : j < l.length
    · have hltI : (j : Int) < (l.length : Int) := by omega
      obtain ⟨b, off, rfl, hbb, hLA⟩ := HL.out.get hlt
      have hla := hLA.below (HBF.out.mono hB) hbb
      have hel := HE.out l[j] (List.getElem_mem hlt)
      rw [List.drop_eq_getElem_cons hlt, allT] at hT
      clear hLA
      generalize l[j] = y at hT hla hel
      obtain ⟨ea, ec, h4, hR⟩ := hla.c4
      have hsq := rsequence_any wr B ea ec y.ext hR (Nat.le_trans hB HBF.out.size) (by omega)
      have hsl := seqP_len y.ext
      rw [cntT_append] at hT
      clear hla hR
      generalize y.ext = ext at hT h4 hsq hel hsl
      generalize seqP ext = S at hT hsq hsl
      have HSQ := Lib.hid hsq
      have HT := Lib.hid hT
      clear hsq hT
      go_wp2_with fail
      refine HSQ.out.mono ?_
      rintro e w2 ⟨v, rfl, hO, hb2⟩
      obtain ⟨sa, sc, he2, hN⟩ := nums_of_row hO
      subst he2
      have HN := Lib.hid hN
      have HB2 := Lib.hid (HB.out.trans (hb2.mono HB.out.size))
      have hSl : S.length ≤ 128000 := by omega
      have HT2 := Lib.hid (show T = n + cntT (S.drop 0) t + cntT (allT (l.drop (j + 1))) t by rw [HT.out]; simp; omega)
      clear hO hN hb2 h4 t2
      go_wp2_with fail
      go_loopw [5, 8] (fun c k wq => ∃ i m : Nat, i ≤ S.length ∧ k = .int .i64 i ∧ c = .int .i64 m ∧ m ≤ n + i ∧ T = m + cntT (S.drop i) t + cntT (allT (l.drop (j + 1))) t ∧ Below w2.heap.size w2 wq) (fun _ k _ => S.length - (intOf k).toNat)
      case atStart => exact ⟨0, n, by omega, rfl, rfl, by omega, HT2.out, Below.refl _ _⟩
      case round =>
        clear HT2
        obtain ⟨i, m, hi, rfl, rfl, hm, hT, hbq⟩ := hrel
        have HBQ := Lib.hid hbq
        by_cases hit : i < S.length
        · have hitI : (i : Int) < (S.length : Int) := by omega
          obtain ⟨sb, rfl, hcs⟩ := HN.out.cells (fun e => by rw [e] at hit; simp at hit)
          have y0 := (hbq.cell (p := ⟨sb, i, none⟩) (block_lt_of_cell (hcs i hit))).trans (hcs i hit)
          rw [List.drop_eq_getElem_cons hit, cntT_cons] at hT
          clear hbq hcs
          generalize S[i] = z at hT y0
          simp only [iv] at y0
          by_cases hz : (z : Int) = t
          · have HT3 := Lib.hid (show T = (m + 1) + cntT (S.drop (i + 1)) t + cntT (allT (l.drop (j + 1))) t by rw [hT, if_pos hz]; omega)
            clear hT
            go_wp2_with fail
            go_roundw
            case rel => exact ⟨i + 1, m + 1, by omega, by go_num, by go_num, by omega, HT3.out, HBQ.out⟩
            case measure => simp [intOf]; omega
          · have HT3 := Lib.hid (show T = m + cntT (S.drop (i + 1)) t + cntT (allT (l.drop (j + 1))) t by rw [hT, if_neg hz]; omega)
            have hzb : ((z : Int) == t) = false := by simpa using hz
            clear hT
            go_wp2_with fail
            go_roundw
            case rel => exact ⟨i + 1, m, by omega, by go_num, rfl, by omega, HT3.out, HBQ.out⟩
            case measure => simp [intOf]; omega
        · have hitI : ¬ (i : Int) < (S.length : Int) := by omega
          have HT3 := Lib.hid (show T = m + cntT (allT (l.drop (j + 1))) t by rw [hT, List.drop_eq_nil_of_le (by omega), cntT_nil]; omega)
          have HB3 := Lib.hid (HB2.out.trans (hbq.mono HB2.out.size))
          clear hT hbq
          go_wp2_with fail
          go_roundw
          case rel => exact ⟨j + 1, m, by omega, by go_num, rfl, by omega, HT3.out, HB3.out⟩
          case measure => simp [intOf]; omega
    · have hltI : ¬ (j : Int) < (l.length : Int) := by omega
      have HQ := Lib.hid (show T = n by rw [hT, List.drop_eq_nil_of_le (by omega)]; rfl)
      clear hT
      go_wp2_with fail
      go_ret
      rw [HQ.out]
      exact ⟨rfl, HBF.out⟩

end Go.Proofs.YtcidbmldbikknaaGreatDoor

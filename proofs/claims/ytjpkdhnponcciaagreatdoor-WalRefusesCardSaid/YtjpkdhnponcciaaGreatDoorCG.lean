/-
  Walks: a piece of a record from the first copy where it is. Condition: the log and its copies lie in memory, and have the sector.
  Walks: the last number of a record; its encoding, or why there is none. Condition: it lies in memory; its texts are not too long.
  Walks: the decoding of a record. Condition: the text is not too long.
-/
import Derived.Test.YtjpkdhnponcciaaGreatDoorCF
namespace Go.Proofs.YtjpkdhnponcciaaGreatDoor

section
open Go.RowKit Go.Sort

def gtT : Option Pc → Array Value
  | some p => #[.agg p.cs, .bool true]
  | none => #[.agg pcZ, .bool false]
theorem getC_eq (c : Cp) (k num idx len sum : Nat) : getC c k num idx len sum = (pcC c k num idx).bind fun p => if idx = 0 ∨ (p.len = len ∧ p.sum = sum) then some p else none := rfl
section
attribute [local go_sem ↓] loadPc_down storePc_down loadA2_down
set_option maxRecDepth 100000 in
set_option maxHeartbeats 8000000 in
theorem get_w (w : World) (lb : Nat) (ka kb : Bk) (A B : Cp) (n num idx : Nat) (like : Pc) (hL : LgAt w lb ka kb A B) (ha : ∀ M, A = some M → n < M.secs.length) (hb : ∀ M, B = some M → n < M.secs.length) :
    Calls Tryz.prog 154 #[.pointer (some ⟨lb, 0, none⟩), .int .i64 n, .int .i64 num, .int .i64 idx, .agg like.cs] w fun e w' => e = .returned (.tuple (gtT (getV A B n num idx like.len like.sum))) ∧ Below w.heap.size w w' := by
  obtain ⟨w1, hw1⟩ : ∃ w1, w1 = (w.alloc (.cells like.cs 261)).alloc (.cells pcZ 261) := ⟨_, rfl⟩
  have hx : w1.heap[w.heap.size]? = some (.cells like.cs 261 (0, 0)) := by
    rw [hw1]; exact (halloc _ _ (by simp)).trans (heap_alloc_new w (.cells like.cs 261))
  have hy : w1.heap[w.heap.size + 1]? = some (.cells pcZ 261 (0, 0)) := by
    rw [hw1]
    have := heap_alloc_new (w.alloc (.cells like.cs 261)) (.cells pcZ 261)
    rwa [World.size_alloc] at this
  have hb1 : Below w.heap.size w w1 := by rw [hw1]; exact ((Below.refl _ w).alloc (Nat.le_refl _) _).alloc (by simp) _
  have HW := Lib.hid hw1
  have HX := Lib.hid hx
  have HY := Lib.hid hy
  have HB1 := Lib.hid hb1
  have HL1 := Lib.hid (hL.below hb1)
  have ld := loadA2_at HL1.out.row rfl
  have HRA := Lib.hid (fun (W : World) (h : LgAt W lb ka kb A B) => readPiece_w W ka A n num idx h.a ha)
  have HRB := Lib.hid (fun (W : World) (h : LgAt W lb ka kb A B) => readPiece_w W kb B n num idx h.b hb)
  have HGA := Lib.hid (getC_eq A n num idx like.len like.sum)
  have HGB := Lib.hid (getC_eq B n num idx like.len like.sum)
  have HV := Lib.hid (show getV A B n num idx like.len like.sum = match getC A n num idx like.len like.sum with | some p => some p | none => getC B n num idx like.len like.sum from rfl)
  clear hw1 hx hy hb1 hL ha hb
  generalize getV A B n num idx like.len like.sum = r at HV ⊢
  generalize getC A n num idx like.len like.sum = ga at HV HGA
  generalize getC B n num idx like.len like.sum = gb at HV HGB
  generalize pcC A n num idx = pa at HRA HGA
  generalize pcC B n num idx = pb at HRB HGB
  go_enter Tryz.func154, Tryz.ntmps154
  go_upto_region 1 with fail
  rw [← HW.out]
  go_wp2_with fail
  clear ld
  go_loopw [20] (fun i wr => ∃ j : Nat, j ≤ 2 ∧ i = .int .i64 j ∧ Below w1.heap.size w1 wr ∧ (1 ≤ j → ga = none) ∧ (j = 2 → gb = none)) (fun i _ => 3 - (intOf i).toNat)
  case atStart => exact ⟨0, by omega, rfl, Below.refl _ _, fun h => by omega, fun h => by omega⟩
  case round =>
    obtain ⟨j, hj, rfl, hb, h1, h2⟩ := hrel
    have HB := Lib.hid hb
    have i0 := idx0
    have i1 := idx1
    clear hb
    rcases (show j = 0 ∨ j = 1 ∨ j = 2 by omega) with rfl | rfl | rfl
    · go_wp2_with fail
      refine (HRA.out wr (HL1.out.below HB.out)).mono ?_
      rintro e w2 ⟨⟨p, rfl, hp⟩, hb2⟩
      obtain ⟨w3, st3, hg3, hb3⟩ := put_pc w2 p.cs rfl (by simp [Value.oneCell'])
      have HB3 := Lib.hid ((HB.out.trans (hb2.mono HB.out.size)).trans (hb3.mono (HB.out.trans (hb2.mono HB.out.size)).size))
      have p2 := cell_at (i := 2) (v := .int .i64 p.len) hg3 rfl
      have p3 := cell_at (i := 3) (v := .int .i64 p.sum) hg3 rfl
      have l2 := cell_at (i := 2) (v := .int .i64 like.len) (heap_below HB3.out (lt_of_block HX.out) HX.out) rfl
      have l3 := cell_at (i := 3) (v := .int .i64 like.sum) (heap_below HB3.out (lt_of_block HX.out) HX.out) rfl
      have ldp := loadPc_at hg3 rfl
      have hy3 := heap_below HB3.out (lt_of_block HY.out) HY.out
      have stp := storePc_at (cs := p.cs) hy3 rfl rfl (by simp [Value.oneCell'])
      have HG := Lib.hid (setRow_heap w3 (w.heap.size + 1) pcZ p.cs 261 (0, 0) hy3)
      have HBZ := Lib.hid (below_setRow (HB1.out.trans (HB3.out.mono HB1.out.size)) (show w.heap.size ≤ w.heap.size + 1 by omega) p.cs)
      cases hpa : pa with
      | none =>
        have hga : ga = none := by rw [HGA.out, hpa]; rfl
        rw [show (none : Option Pc).isSome = false from rfl]
        clear hb2 hb3 hg3 hy3 hp
        go_wp2_with fail
        go_roundw
        case rel => exact ⟨1, by omega, by simp, HB3.out, fun _ => hga, fun h => by omega⟩
        case measure => simp [intOf]
      | some q =>
        obtain rfl := hp q hpa
        have hcc : ga = if idx = 0 ∨ (p.len = like.len ∧ p.sum = like.sum) then some p else none := by rw [HGA.out, hpa]; rfl
        rw [show (some p : Option Pc).isSome = true from rfl]
        clear hb2 hb3 hg3 hy3 hp
        by_cases k0 : idx = 0
        · have hga : ga = some p := by rw [hcc, if_pos (Or.inl k0)]
          have HRr := Lib.hid (show r = some p by rw [HV.out]; rw [hga])
          clear hcc hga
          subst k0
          go_wp2_with fail
          (try simp only [Exit.inBlock, Exit.then])
          refine ret2_pc (cs := p.cs) rfl rfl rfl rfl rfl HG.out ?_
          exact ⟨by rw [HRr.out]; rfl, HBZ.out⟩
        · have k0' : ((idx : Int) == 0) = false := by rw [beq_eq_false_iff_ne]; omega
          by_cases k1 : p.len = like.len
          · by_cases k2 : p.sum = like.sum
            · have hga : ga = some p := by rw [hcc, if_pos (Or.inr ⟨k1, k2⟩)]
              have HRr := Lib.hid (show r = some p by rw [HV.out]; rw [hga])
              clear hcc hga
              rw [k1] at p2
              rw [k2] at p3
              clear k0 k1 k2
              go_wp2_with fail
              (try simp only [Exit.inBlock, Exit.then])
              refine ret2_pc (cs := p.cs) rfl rfl rfl rfl rfl HG.out ?_
              exact ⟨by rw [HRr.out]; rfl, HBZ.out⟩
            · have k2' : ((p.sum : Int) == (like.sum : Int)) = false := by rw [beq_eq_false_iff_ne]; omega
              have hga : ga = none := by rw [hcc, if_neg (by rintro (h | h); exact k0 h; exact k2 h.2)]
              rw [k1] at p2
              clear hcc k0 k1 k2
              go_wp2_with fail
              go_roundw
              case rel => exact ⟨1, by omega, by simp, HB3.out, fun _ => hga, fun h => by omega⟩
              case measure => simp [intOf]
          · have k1' : ((p.len : Int) == (like.len : Int)) = false := by rw [beq_eq_false_iff_ne]; omega
            have hga : ga = none := by rw [hcc, if_neg (by rintro (h | h); exact k0 h; exact k1 h.1)]
            clear hcc k0 k1
            go_wp2_with fail
            go_roundw
            case rel => exact ⟨1, by omega, by simp, HB3.out, fun _ => hga, fun h => by omega⟩
            case measure => simp [intOf]
    · go_wp2_with fail
      refine (HRB.out wr (HL1.out.below HB.out)).mono ?_
      rintro e w2 ⟨⟨p, rfl, hp⟩, hb2⟩
      obtain ⟨w3, st3, hg3, hb3⟩ := put_pc w2 p.cs rfl (by simp [Value.oneCell'])
      have HB3 := Lib.hid ((HB.out.trans (hb2.mono HB.out.size)).trans (hb3.mono (HB.out.trans (hb2.mono HB.out.size)).size))
      have p2 := cell_at (i := 2) (v := .int .i64 p.len) hg3 rfl
      have p3 := cell_at (i := 3) (v := .int .i64 p.sum) hg3 rfl
      have l2 := cell_at (i := 2) (v := .int .i64 like.len) (heap_below HB3.out (lt_of_block HX.out) HX.out) rfl
      have l3 := cell_at (i := 3) (v := .int .i64 like.sum) (heap_below HB3.out (lt_of_block HX.out) HX.out) rfl
      have ldp := loadPc_at hg3 rfl
      have hy3 := heap_below HB3.out (lt_of_block HY.out) HY.out
      have stp := storePc_at (cs := p.cs) hy3 rfl rfl (by simp [Value.oneCell'])
      have HG := Lib.hid (setRow_heap w3 (w.heap.size + 1) pcZ p.cs 261 (0, 0) hy3)
      have HBZ := Lib.hid (below_setRow (HB1.out.trans (HB3.out.mono HB1.out.size)) (show w.heap.size ≤ w.heap.size + 1 by omega) p.cs)
      cases hpa : pb with
      | none =>
        have hga : gb = none := by rw [HGB.out, hpa]; rfl
        rw [show (none : Option Pc).isSome = false from rfl]
        clear hb2 hb3 hg3 hy3 hp
        go_wp2_with fail
        go_roundw
        case rel => exact ⟨2, by omega, by simp, HB3.out, fun _ => h1 (by omega), fun _ => hga⟩
        case measure => simp [intOf]
      | some q =>
        obtain rfl := hp q hpa
        have hcc : gb = if idx = 0 ∨ (p.len = like.len ∧ p.sum = like.sum) then some p else none := by rw [HGB.out, hpa]; rfl
        rw [show (some p : Option Pc).isSome = true from rfl]
        clear hb2 hb3 hg3 hy3 hp
        by_cases k0 : idx = 0
        · have hga : gb = some p := by rw [hcc, if_pos (Or.inl k0)]
          have HRr := Lib.hid (show r = some p by rw [HV.out]; rw [h1 (by omega)]; exact hga)
          clear hcc hga
          subst k0
          go_wp2_with fail
          (try simp only [Exit.inBlock, Exit.then])
          refine ret2_pc (cs := p.cs) rfl rfl rfl rfl rfl HG.out ?_
          exact ⟨by rw [HRr.out]; rfl, HBZ.out⟩
        · have k0' : ((idx : Int) == 0) = false := by rw [beq_eq_false_iff_ne]; omega
          by_cases k1 : p.len = like.len
          · by_cases k2 : p.sum = like.sum
            · have hga : gb = some p := by rw [hcc, if_pos (Or.inr ⟨k1, k2⟩)]
              have HRr := Lib.hid (show r = some p by rw [HV.out]; rw [h1 (by omega)]; exact hga)
              clear hcc hga
              rw [k1] at p2
              rw [k2] at p3
              clear k0 k1 k2
              go_wp2_with fail
              (try simp only [Exit.inBlock, Exit.then])
              refine ret2_pc (cs := p.cs) rfl rfl rfl rfl rfl HG.out ?_
              exact ⟨by rw [HRr.out]; rfl, HBZ.out⟩
            · have k2' : ((p.sum : Int) == (like.sum : Int)) = false := by rw [beq_eq_false_iff_ne]; omega
              have hga : gb = none := by rw [hcc, if_neg (by rintro (h | h); exact k0 h; exact k2 h.2)]
              rw [k1] at p2
              clear hcc k0 k1 k2
              go_wp2_with fail
              go_roundw
              case rel => exact ⟨2, by omega, by simp, HB3.out, fun _ => h1 (by omega), fun _ => hga⟩
              case measure => simp [intOf]
          · have k1' : ((p.len : Int) == (like.len : Int)) = false := by rw [beq_eq_false_iff_ne]; omega
            have hga : gb = none := by rw [hcc, if_neg (by rintro (h | h); exact k0 h; exact k1 h.1)]
            clear hcc k0 k1
            go_wp2_with fail
            go_roundw
            case rel => exact ⟨2, by omega, by simp, HB3.out, fun _ => h1 (by omega), fun _ => hga⟩
            case measure => simp [intOf]
    · have HRr := Lib.hid (show r = none by rw [HV.out, h1 (by omega)]; exact h2 rfl)
      have hyr := heap_below HB.out (lt_of_block HY.out) HY.out
      have stp := storePc_at (cs := pcZ) hyr rfl rfl (by simp [Value.oneCell'])
      have HG := Lib.hid (setRow_heap wr (w.heap.size + 1) pcZ pcZ 261 (0, 0) hyr)
      have HBZ := Lib.hid (below_setRow (HB1.out.trans (HB.out.mono HB1.out.size)) (show w.heap.size ≤ w.heap.size + 1 by omega) pcZ)
      clear hyr h1 h2
      go_wp2_with fail
      (try simp only [Exit.inBlock, Exit.then])
      refine ret2_pc (cs := pcZ) rfl rfl rfl rfl rfl HG.out ?_
      exact ⟨by rw [HRr.out]; rfl, HBZ.out⟩
end
end

section
open Go.RowKit Go.Sort

section
attribute [local go_sem ↓] loadLr_down storeLr_down
set_option maxRecDepth 100000 in
set_option maxHeartbeats 1000000 in
theorem last_w (num unit : Int) (a : Option Addr) (n c : Nat) (w : World) (h1 : 0 ≤ num) (h2 : num ≤ 1099511627777) (hn : n ≤ 1000) : Calls Tryz.prog 56 #[.agg (lrC num unit a n c)] w fun e w' => e = .returned (.int .i64 (num + n - 1)) ∧ Below w.heap.size w w' := by
  have HB := Lib.hid (box_below0 w (lrC num unit a n c) 50)
  have hx := heap_alloc_new w (.cells (lrC num unit a n c) 50)
  have c0 := cell_at (i := 0) (v := .int .i64 num) hx rfl
  have c2 := cell_at (i := 2) (v := .slice a n c) hx rfl
  have e1 : IntKind.i64.wrap (num + (n : Int)) = num + (n : Int) := IntWalk.i64_in _ (by omega)
  have e2 : IntKind.i64.wrap (num + (n : Int) - 1) = num + (n : Int) - 1 := IntWalk.i64_in _ (by omega)
  clear hx
  go_enter Tryz.func56, Tryz.ntmps56
  go_wp2_with fail
  go_ret
  exact ⟨rfl, HB.out⟩
/-- What Encode returns. -/
def encT (x : Lr) : Array Value := if soundP x = false then #[.string ⟨#[]⟩, .int .i64 1] else if 16384 < (lrB x).length then #[.string ⟨#[]⟩, .int .i64 8] else #[.string ⟨(lrB x).toArray⟩, .int .i64 0]
set_option maxRecDepth 100000 in
set_option maxHeartbeats 2000000 in
theorem encode_w (w : World) (B : Nat) (x : Lr) (h : Chs w B x.a x.l) (hB : B ≤ w.heap.size) (hl : x.l.length ≤ 1000000) (hc : ∀ c ∈ x.l, ChLen c) :
    Calls Tryz.prog 52 #[.agg x.cs] w fun e w' => e = .returned (.tuple (encT x)) ∧ Below w.heap.size w w' := by
  obtain ⟨w0, hw0⟩ : ∃ w0, w0 = w.alloc (.cells x.cs 50) := ⟨_, rfl⟩
  have hx : w0.heap[w.heap.size]? = some (.cells x.cs 50 (0, 0)) := by rw [hw0]; exact heap_alloc_new w _
  have hb0 : Below w.heap.size w w0 := by rw [hw0]; exact box_below0 _ _ _
  have HW := Lib.hid hw0
  have HX := Lib.hid hx
  have HB0 := Lib.hid hb0
  have HS := Lib.hid (sound_any w0 B x (h.below (hb0.mono hB)) (Nat.le_trans hB hb0.size) hl hc)
  have ld0 := loadLr_at hx rfl
  cases hs : soundP x with
  | false =>
    rw [hs] at HS
    have HE := Lib.hid (show encT x = #[.string ⟨#[]⟩, .int .i64 1] by unfold encT; rw [if_pos hs])
    clear hw0 hx hb0 h hc hs
    go_enter Tryz.func52, Tryz.ntmps52
    go_upto_region 1 with fail
    rw [← HW.out]
    go_wp2_with fail
    refine HS.out.mono ?_
    rintro e w1 ⟨rfl, hb1⟩
    have HB1 := Lib.hid (HB0.out.trans (hb1.mono HB0.out.size))
    clear hb1
    go_wp2_with fail
    go_ret2
    exact ⟨by rw [HE.out]; rfl, HB1.out⟩
  | true =>
    rw [hs] at HS
    obtain ⟨⟨h1, h2, h3, h4⟩, h5⟩ := sound_of hs
    have hok : ∀ c ∈ x.l, ChOk c := fun c hm => chOk_of (hc c hm) (h5 c hm)
    have HEn := Lib.hid (fun (W : World) (hb : Below w.heap.size w W) => encode_any W B x x.num.toNat x.unit.toNat (h.below (hb.mono hB)) (Nat.le_trans hB hb.size) (by omega) (by omega) (by omega) (by omega) h2.2 hok)
    have HE := Lib.hid (show encT x = if 16384 < (lrB x).length then #[.string ⟨#[]⟩, .int .i64 8] else #[.string ⟨(lrB x).toArray⟩, .int .i64 0] by unfold encT; rw [if_neg (by rw [hs]; simp)])
    clear hw0 hx hb0 h hc hs h1 h2 h3 h4 h5 hok
    generalize lrB x = s at HEn HE
    go_enter Tryz.func52, Tryz.ntmps52
    go_upto_region 1 with fail
    rw [← HW.out]
    go_wp2_with fail
    refine HS.out.mono ?_
    rintro e w1 ⟨rfl, hb1⟩
    have HB1 := Lib.hid (HB0.out.trans (hb1.mono HB0.out.size))
    have ld1 := loadLr_at (heap_below hb1 (lt_of_block HX.out) HX.out) rfl
    clear hb1 ld0
    go_wp2_with fail
    refine (HEn.out w1 HB1.out).mono ?_
    rintro e w2 ⟨rfl, hb2⟩
    have HB2 := Lib.hid (HB1.out.trans (hb2.mono HB1.out.size))
    clear hb2 ld1
    by_cases hg : 16384 < s.length
    · have hgI : (16384 : Int) < (s.length : Int) := by omega
      rw [if_pos hg] at HE
      clear hg
      go_wp2_with fail
      go_ret2
      exact ⟨by rw [HE.out]; rfl, HB2.out⟩
    · have hgI : ¬ (16384 : Int) < (s.length : Int) := by omega
      rw [if_neg hg] at HE
      clear hg
      go_wp2_with fail
      go_ret2
      exact ⟨by rw [HE.out]; rfl, HB2.out⟩
end
end

section
open Go.RowKit Go.Sort

theorem cntR_le (most : Nat) (l : By) (e : Int) : (cntR most l e).1 ≤ most := by
  unfold cntR
  split
  · split
    · simp
    · simp only; omega
  · simp
theorem textR_le (most : Nat) (l : By) (e : Int) : (textR most l e).1.length ≤ most := by
  have := cntR_le most l e
  unfold textR
  split
  · split
    · simp
    · simp only [List.length_take]; omega
  · simp
theorem chD_len (l : By) (e : Int) : (chD l e).2.1.length ≤ l.length := by
  unfold chD
  simp only
  refine Nat.le_trans (textR_len _ _ _) (Nat.le_trans (textR_len _ _ _) (Nat.le_trans (textR_len _ _ _) (Nat.le_trans (cntR_len _ _ _) (cntR_len _ _ _))))
theorem chD_ok (l : By) (e : Int) : ChLen (chD l e).1 := by
  unfold chD
  simp only
  have h7 := cntR_le 7 l e
  refine ⟨i64_of (show (-9223372036854775808 : Int) ≤ ((cntR 7 l e).1 : Int) by omega) (show ((cntR 7 l e).1 : Int) ≤ 9223372036854775807 by omega), ?_, ?_, ?_⟩
  · exact Nat.le_trans (textR_le 32 _ _) (by omega)
  · exact Nat.le_trans (textR_le 1000 _ _) (by omega)
  · exact Nat.le_trans (textR_le 31 _ _) (by omega)
theorem chsD_snoc : ∀ (k : Nat) (l : By) (e : Int), chsD (k + 1) l e = ((chsD k l e).1 ++ [(chD (chsD k l e).2.1 (chsD k l e).2.2).1], (chD (chsD k l e).2.1 (chsD k l e).2.2).2)
  | 0, l, e => by simp [chsD]
  | k + 1, l, e => by
    have h1 : chsD (k + 1 + 1) l e = ((chD l e).1 :: (chsD (k + 1) (chD l e).2.1 (chD l e).2.2).1, (chsD (k + 1) (chD l e).2.1 (chD l e).2.2).2) := rfl
    have h2 : chsD (k + 1) l e = ((chD l e).1 :: (chsD k (chD l e).2.1 (chD l e).2.2).1, (chsD k (chD l e).2.1 (chD l e).2.2).2) := rfl
    rw [h1, h2, chsD_snoc k]
    simp
theorem chsD_ok : ∀ (k : Nat) (l : By) (e : Int), (chsD k l e).1.length = k ∧ (chsD k l e).2.1.length ≤ l.length ∧ ∀ c ∈ (chsD k l e).1, ChLen c
  | 0, l, e => ⟨rfl, Nat.le_refl _, fun c h => by cases h⟩
  | k + 1, l, e => by
    obtain ⟨h1, h2, h3⟩ := chsD_ok k l e
    rw [chsD_snoc]
    refine ⟨by simp [h1], Nat.le_trans (chD_len _ _) h2, fun c hc => ?_⟩
    rcases List.mem_append.1 hc with hc | hc
    · exact h3 c hc
    · rw [List.mem_singleton] at hc; subst hc; exact chD_ok _ _
theorem encCh : Enc Tryz.prog (fun x : Ch => x.cs) 33 94 5 := by
  obtain ⟨i, h1, h2, h3, h4⟩ := info_parts (show (Tryz.prog.info? 94).map (fun i => (i.zero, i.size, i.bytes)) = some (some (.agg #[.int .i64 0, .int .i64 0, .string ⟨#[]⟩, .string ⟨#[]⟩, .string ⟨#[]⟩]), 5, 64) by kernel_rfl)
  exact ⟨Tryz.underlying33, ⟨i, _, h1, h2, h3, by omega, rfl, by omega⟩, fun _ => rfl, fun x u hu => by simp at hu; rcases hu with rfl | rfl | rfl | rfl | rfl <;> rfl⟩
abbrev ChRow (w : World) (base : Nat) (v : Value) (l : List Ch) : Prop := RowE (fun x : Ch => x.cs) 94 5 w base v l
theorem chs_of_row {w : World} {base : Nat} {v : Value} {l : List Ch} (h : ChRow w base v l) : ∃ a cap, v = .slice a l.length cap ∧ l.length ≤ cap ∧ cap ≤ maxLen ∧ Chs w w.heap.size a l := by
  obtain ⟨a, cap, hv, hc, hm, h2⟩ := h.cells encCh
  refine ⟨a, cap, hv, hc, hm, ⟨fun hl => ?_⟩⟩
  obtain ⟨g, rfl, _, hb, hg, hx⟩ := h2 hl
  refine ⟨g, 0, rfl, hg, fun i hi => ?_⟩
  rw [Nat.zero_add]
  exact ⟨hx i hi 0 _ rfl, hx i hi 1 _ rfl, hx i hi 2 _ rfl, hx i hi 3 _ rfl, hx i hi 4 _ rfl⟩
/-- Where the loop stands. -/
structure DcSt (W0 : World) (g O n u : Nat) (l0 : By) (e0 : Int) (j : Nat) (W : World) : Prop where
  only : Only [g, O] W0 W
  rd : RdAt W g (chsD j l0 e0).2.1 (chsD j l0 e0).2.2
  out : ∃ a cap, W.heap[O]? = some (.cells (lrC n u a j cap) 50 (0, 0)) ∧ ChRow W W0.heap.size (.slice a j cap) (chsD j l0 e0).1
/-- What Decode returns. -/
def DecE (s : By) (lo : Nat) (e : Ending) (W : World) : Prop := match rcD s with
  | some r => ∃ a cap, e = .returned (.tuple #[.agg (lrC r.num r.unit a r.l.length cap), .int .i64 0]) ∧ ChRow W lo (.slice a r.l.length cap) r.l
  | none => e = .returned (.tuple #[.agg lrZ, .int .i64 11])
section
attribute [local go_sem ↓] loadLr_down storeLr_down loadCh_down storeCh_down
set_option maxRecDepth 100000 in
set_option maxHeartbeats 8000000 in
theorem decode_w (s : By) (w : World) (hs : s.length ≤ 1000000) : Calls Tryz.prog 155 #[.string ⟨s.toArray⟩] w fun e w' => DecE s w.heap.size e w' ∧ Below w.heap.size w w' := by
  obtain ⟨w0, hw0⟩ : ∃ w0, w0 = w.alloc (.cells lrZ 50) := ⟨_, rfl⟩
  have hx : w0.heap[w.heap.size]? = some (.cells lrZ 50 (0, 0)) := by rw [hw0]; exact heap_alloc_new w _
  have hb0 : Below w.heap.size w w0 := by rw [hw0]; exact box_below0 _ _ _
  have HW := Lib.hid hw0
  have HX := Lib.hid hx
  have HB0 := Lib.hid hb0
  by_cases hg : 16384 < s.length
  · have hgI : (16384 : Int) < (s.length : Int) := by omega
    have HD := Lib.hid (show rcD s = none by unfold rcD; rw [if_neg (by omega)])
    have st := storeLr_at (cs := lrZ) hx rfl rfl (by simp [Value.oneCell'])
    have HG := Lib.hid (setRow_heap w0 w.heap.size lrZ lrZ 50 (0, 0) hx)
    have HBZ := Lib.hid (below_setRow HB0.out (Nat.le_refl w.heap.size) lrZ)
    clear hw0 hx hb0 hg hs
    go_enter Tryz.func155, Tryz.ntmps155
    go_upto_region 1 with fail
    rw [← HW.out]
    go_wp2_with fail
    (try simp only [Exit.inBlock, Exit.then])
    refine bodyPost_ret (results2 rfl _ rfl (loadLr_at HG.out rfl)) rfl ?_
    exact ⟨by unfold DecE; rw [HD.out]; rfl, HBZ.out⟩
  have hgI : ¬ (16384 : Int) < (s.length : Int) := by omega
  have hgL := Lib.hid (show s.length ≤ 16384 by omega)
  clear hw0 hx hb0 hg
  go_enter Tryz.func155, Tryz.ntmps155
  go_upto_region 1 with fail
  rw [← HW.out]
  go_wp2_with fail
  refine (newReader_any s w0).mono ?_
  rintro e w1 ⟨rfl, hr1, hb1⟩
  have HR1 := Lib.hid hr1
  have HB1 := Lib.hid (HB0.out.trans (hb1.mono HB0.out.size))
  have HX1 := Lib.hid (heap_below hb1 (lt_of_block HX.out) HX.out)
  have HNG := Lib.hid (show w.heap.size < w0.heap.size from lt_of_block HX.out)
  clear hr1 hb1
  go_wp2_with fail
  refine (count_gen 1099511627776 (by decide) w1 w0.heap.size s 0 HR1.out (by omega)).mono ?_
  rintro e w2 ⟨rfl, hr2, ho2⟩
  have hL2 := cntR_len 1099511627776 s 0
  have hM2 := cntR_le 1099511627776 s 0
  obtain ⟨⟨n2, l2, e2⟩, hq2⟩ : ∃ q, q = cntR 1099511627776 s 0 := ⟨_, rfl⟩
  rw [← hq2] at hr2 hL2 hM2
  simp only [← hq2] at hr2 hL2 hM2 ⊢
  have HR2 := Lib.hid hr2
  have HO2 := Lib.hid ho2
  have HQ2 := Lib.hid hq2
  clear hr2 ho2 hq2
  go_wp2_with fail
  refine (count_gen 1099511627776 (by decide) w2 w0.heap.size l2 e2 HR2.out (by omega)).mono ?_
  rintro e w3 ⟨rfl, hr3, ho3⟩
  have hL3 := cntR_len 1099511627776 l2 e2
  have hM3 := cntR_le 1099511627776 l2 e2
  obtain ⟨⟨n3, l3, e3⟩, hq3⟩ : ∃ q, q = cntR 1099511627776 l2 e2 := ⟨_, rfl⟩
  rw [← hq3] at hr3 hL3 hM3
  simp only [← hq3] at hr3 hL3 hM3 ⊢
  have HO3 := Lib.hid (HO2.out.trans ho3)
  have HQ3 := Lib.hid hq3
  obtain ⟨w4, st4, hg4, hb4⟩ : ∃ W, (storeLr ⟨w3.heap.size, 0, none⟩ (.agg (lrC n2 n3 none 0 0))).run Tryz.prog (w3.alloc (.cells lrZ 50)) = .ok () W ∧ W.heap[w3.heap.size]? = some (.cells (lrC n2 n3 none 0 0) 50 (0, 0)) ∧ Below w3.heap.size w3 W := put_lr w3 ⟨n2, n3, none, 0, []⟩
  have HR4 := Lib.hid (RdAt.mk (heap_below hb4 hr3.lt hr3.row) : RdAt w4 w0.heap.size l3 e3)
  have HO4 := Lib.hid (HO3.out.step_below hb4)
  have HG4 := Lib.hid hg4
  have HNO := Lib.hid (show w0.heap.size ≠ w3.heap.size by have := hr3.lt; omega)
  have HN4 := Lib.hid (show w3.heap.size < w4.heap.size from lt_of_block hg4)
  have HS3 := Lib.hid HO3.out.size
  clear hr3 ho3 hq3 hg4 hb4
  go_wp2_with fail
  clear st4
  refine (count_gen 300 (by decide) w4 w0.heap.size l3 e3 HR4.out (by omega)).mono ?_
  rintro e w5 ⟨rfl, hr5, ho5⟩
  have hL5 := cntR_len 300 l3 e3
  have hM5 := cntR_le 300 l3 e3
  obtain ⟨⟨K, l5, e5⟩, hq5⟩ : ∃ q, q = cntR 300 l3 e3 := ⟨_, rfl⟩
  rw [← hq5] at hr5 hL5 hM5
  simp only [← hq5] at hr5 hL5 hM5 ⊢
  have HQ5 := Lib.hid hq5
  have HO5 := Lib.hid (HO4.out.trans ho5)
  have HST := Lib.hid (show DcSt w5 w0.heap.size w3.heap.size n2 n3 l5 e5 0 w5 from
    ⟨Only.refl _ _, hr5, ⟨none, 0, ho5.heap HG4.out (by rw [List.mem_singleton]; exact fun e => HNO.out e.symm), RowE.nil _ _⟩⟩)
  have HN5 := Lib.hid (Nat.lt_of_lt_of_le HN4.out ho5.size)
  have HD := Lib.hid (show rcD s = if endR (chsD K l5 e5).2.1 (chsD K l5 e5).2.2 = 0 ∧ (Rc.mk n2 n3 (chsD K l5 e5).1).sound = true then some ⟨n2, n3, (chsD K l5 e5).1⟩ else none by
    unfold rcD
    rw [if_pos hgL.out]
    simp only [← HQ2.out, ← HQ3.out, ← HQ5.out])
  have HB5 := Lib.hid (show Below w.heap.size w w5 from HB1.out.trans (HO5.out.below HB1.out.size (fun i hi => by rw [List.mem_singleton] at hi; rw [hi]; exact Nat.le_of_lt HNG.out)))
  have HX5 := Lib.hid (HO5.out.heap HX1.out (by rw [List.mem_singleton]; have := HNG.out; omega))
  have HGL := Lib.hid (show w.heap.size ≤ w0.heap.size ∧ w.heap.size ≤ w3.heap.size from ⟨Nat.le_of_lt HNG.out, Nat.le_trans HB1.out.size HS3.out⟩)
  have hl5 : l5.length ≤ 1000000 := by omega
  clear hr5 ho5 hq5 hL2 hL3 hL5
  go_wp2_with fail
  go_loopw [20] (fun i wr => ∃ j : Nat, j ≤ K ∧ i = .int .i64 j ∧ DcSt w5 w0.heap.size w3.heap.size n2 n3 l5 e5 j wr) (fun i _ => K - (intOf i).toNat)
  case atStart => exact ⟨0, by omega, rfl, HST.out⟩
  case round =>
    clear HST
    obtain ⟨j, hj, rfl, hst⟩ := hrel
    obtain ⟨ho, hrd, a, cap, hout, hrow⟩ := hst
    obtain ⟨hk1, hk2, hk3⟩ := chsD_ok j l5 e5
    have HSN := Lib.hid (chsD_snoc j l5 e5)
    by_cases hlt : j < K
    · have hltI : (j : Int) < (K : Int) := by omega
      obtain ⟨⟨L, lf, ef⟩, hqd⟩ : ∃ q, q = chsD j l5 e5 := ⟨_, rfl⟩
      rw [← hqd] at hrd hrow hk1 hk2 HSN
      simp only at hrd hrow hk1 hk2
      have HO := Lib.hid ho
      have HRD := Lib.hid hrd
      have HOUT := Lib.hid hout
      have HROW := Lib.hid hrow
      have HNF := Lib.hid (show ∀ k, (Value.slice a j cap).ownBlock = some k → k ≠ w0.heap.size ∧ k ≠ w3.heap.size from fun k hk => by
        have h1 := row_own hrow hk
        have h2 := HN5.out
        have h3 := HO5.out.size
        have h4 := HR1.out.lt
        omega)
      have hHK := Lib.hid hk1
      clear hqd ho hrd hout hrow hk3 hk1
      go_wp2_with fail
      refine (count_gen 7 (by decide) wr w0.heap.size lf ef HRD.out (by omega)).mono ?_
      rintro e v1 ⟨rfl, hr1, ho1⟩
      have hL1 := cntR_len 7 lf ef
      obtain ⟨⟨k1, f1, g1⟩, hq1⟩ : ∃ q, q = cntR 7 lf ef := ⟨_, rfl⟩
      rw [← hq1] at hr1 hL1
      simp only [← hq1] at hr1 hL1 ⊢
      have HV1 := Lib.hid hr1
      have HP1 := Lib.hid ho1
      have HC1 := Lib.hid hq1
      clear hr1 ho1 hq1
      go_wp2_with fail
      refine (count_gen 1099511627776 (by decide) v1 w0.heap.size f1 g1 HV1.out (by omega)).mono ?_
      rintro e v2 ⟨rfl, hr2, ho2⟩
      have hL2 := cntR_len 1099511627776 f1 g1
      obtain ⟨⟨k2, f2, g2⟩, hq2⟩ : ∃ q, q = cntR 1099511627776 f1 g1 := ⟨_, rfl⟩
      rw [← hq2] at hr2 hL2
      simp only [← hq2] at hr2 hL2 ⊢
      obtain ⟨v3, st3, hg3, hb3⟩ := put_ch v2 ⟨k1, k2, [], [], []⟩
      have HV3 := Lib.hid (RdAt.mk (heap_below hb3 hr2.lt hr2.row) : RdAt v3 w0.heap.size f2 g2)
      have HP3 := Lib.hid ((HP1.out.trans ho2).step_below hb3)
      have HC2 := Lib.hid hq2
      have HE3 := Lib.hid hg3
      have HNC := Lib.hid (show v2.heap.size ≠ w0.heap.size ∧ wr.heap.size ≤ v2.heap.size from ⟨by have := hr2.lt; omega, (HP1.out.trans ho2).size⟩)
      clear hr2 ho2 hq2 hg3 hb3
      go_wp2_with fail
      clear st3
      refine (text_read 32 (by decide) v3 w0.heap.size f2 g2 HV3.out (by omega)).mono ?_
      rintro e v4 ⟨rfl, hr4, ho4⟩
      have hL4 := textR_len 32 f2 g2
      obtain ⟨⟨t4, f4, g4⟩, hq4⟩ : ∃ q, q = textR 32 f2 g2 := ⟨_, rfl⟩
      rw [← hq4] at hr4 hL4
      simp only [← hq4] at hr4 hL4 ⊢
      have hg4 := ho4.heap HE3.out (by rw [List.mem_singleton]; exact HNC.out.1)
      obtain ⟨v5, hw5⟩ : ∃ v, v = v4.setCell ⟨v2.heap.size, 2, none⟩ (.string ⟨t4.toArray⟩) := ⟨_, rfl⟩
      have hg5 : v5.heap[v2.heap.size]? = some (.cells (Ch.cs ⟨k1, k2, t4, [], []⟩) 94 (0, 0)) := by rw [hw5]; exact cell_row_any v4 v2.heap.size 2 _ _ _ (.string ⟨t4.toArray⟩) hg4
      have ho5 : Only [v2.heap.size] v4 v5 := by rw [hw5]; exact (Only.refl _ _).setCell (Or.inl (by simp)) _
      have hfr4 : v4.frozen? ⟨v2.heap.size, 2, none⟩ = false := free_at hg4 2
      have hcc4 : v4.cell? ⟨v2.heap.size, 2, none⟩ = some (.string ⟨#[]⟩) := cell_at hg4 rfl
      have HV5 := Lib.hid (RdAt.mk (ho5.heap hr4.row (by rw [List.mem_singleton]; exact fun e => HNC.out.1 e.symm)) : RdAt v5 w0.heap.size f4 g4)
      have HP5 := Lib.hid ((HP3.out.trans ho4).then ho5 (fun i hi => Or.inr (by rw [List.mem_singleton] at hi; rw [hi]; exact HNC.out.2)))
      have HC4 := Lib.hid hq4
      have HE5 := Lib.hid hg5
      have HWW5 := Lib.hid hw5
      clear hr4 ho4 hq4 hg4 hg5 ho5 hw5
      go_wp2_with fail
      rw [← HWW5.out]
      clear hfr4 hcc4
      refine (text_read 1000 (by decide) v5 w0.heap.size f4 g4 HV5.out (by omega)).mono ?_
      rintro e v6 ⟨rfl, hr6, ho6⟩
      have hL6 := textR_len 1000 f4 g4
      obtain ⟨⟨t6, f6, g6⟩, hq6⟩ : ∃ q, q = textR 1000 f4 g4 := ⟨_, rfl⟩
      rw [← hq6] at hr6 hL6
      simp only [← hq6] at hr6 hL6 ⊢
      have hg6 := ho6.heap HE5.out (by rw [List.mem_singleton]; exact HNC.out.1)
      obtain ⟨v7, hw7⟩ : ∃ v, v = v6.setCell ⟨v2.heap.size, 3, none⟩ (.string ⟨t6.toArray⟩) := ⟨_, rfl⟩
      have hg7 : v7.heap[v2.heap.size]? = some (.cells (Ch.cs ⟨k1, k2, t4, t6, []⟩) 94 (0, 0)) := by rw [hw7]; exact cell_row_any v6 v2.heap.size 3 _ _ _ (.string ⟨t6.toArray⟩) hg6
      have ho7 : Only [v2.heap.size] v6 v7 := by rw [hw7]; exact (Only.refl _ _).setCell (Or.inl (by simp)) _
      have hfr6 : v6.frozen? ⟨v2.heap.size, 3, none⟩ = false := free_at hg6 3
      have hcc6 : v6.cell? ⟨v2.heap.size, 3, none⟩ = some (.string ⟨#[]⟩) := cell_at hg6 rfl
      have HV7 := Lib.hid (RdAt.mk (ho7.heap hr6.row (by rw [List.mem_singleton]; exact fun e => HNC.out.1 e.symm)) : RdAt v7 w0.heap.size f6 g6)
      have HP7 := Lib.hid ((HP5.out.trans ho6).then ho7 (fun i hi => Or.inr (by rw [List.mem_singleton] at hi; rw [hi]; exact HNC.out.2)))
      have HC6 := Lib.hid hq6
      have HE7 := Lib.hid hg7
      have HWW7 := Lib.hid hw7
      clear hr6 ho6 hq6 hg6 hg7 ho7 hw7
      go_wp2_with fail
      rw [← HWW7.out]
      clear hfr6 hcc6
      refine (text_read 31 (by decide) v7 w0.heap.size f6 g6 HV7.out (by omega)).mono ?_
      rintro e v8 ⟨rfl, hr8, ho8⟩
      have hL8 := textR_len 31 f6 g6
      obtain ⟨⟨t8, f8, g8⟩, hq8⟩ : ∃ q, q = textR 31 f6 g6 := ⟨_, rfl⟩
      rw [← hq8] at hr8 hL8
      simp only [← hq8] at hr8 hL8 ⊢
      have hg8 := ho8.heap HE7.out (by rw [List.mem_singleton]; exact HNC.out.1)
      obtain ⟨v9, hw9⟩ : ∃ v, v = v8.setCell ⟨v2.heap.size, 4, none⟩ (.string ⟨t8.toArray⟩) := ⟨_, rfl⟩
      have hg9 : v9.heap[v2.heap.size]? = some (.cells (Ch.cs ⟨k1, k2, t4, t6, t8⟩) 94 (0, 0)) := by rw [hw9]; exact cell_row_any v8 v2.heap.size 4 _ _ _ (.string ⟨t8.toArray⟩) hg8
      have ho9 : Only [v2.heap.size] v8 v9 := by rw [hw9]; exact (Only.refl _ _).setCell (Or.inl (by simp)) _
      have hfr8 : v8.frozen? ⟨v2.heap.size, 4, none⟩ = false := free_at hg8 4
      have hcc8 : v8.cell? ⟨v2.heap.size, 4, none⟩ = some (.string ⟨#[]⟩) := cell_at hg8 rfl
      have HV9 := Lib.hid (RdAt.mk (ho9.heap hr8.row (by rw [List.mem_singleton]; exact fun e => HNC.out.1 e.symm)) : RdAt v9 w0.heap.size f8 g8)
      have HP9 := Lib.hid ((HP7.out.trans ho8).then ho9 (fun i hi => Or.inr (by rw [List.mem_singleton] at hi; rw [hi]; exact HNC.out.2)))
      have HC8 := Lib.hid hq8
      have HE9 := Lib.hid hg9
      have HWW9 := Lib.hid hw9
      clear hr8 ho8 hq8 hg8 hg9 ho9 hw9
      go_upto_region 11 with fail
      rw [← HWW9.out]
      clear hfr8 hcc8
      have hoo := HP9.out.heap HOUT.out (by rw [List.mem_singleton]; exact fun e => HNO.out e.symm)
      have c2 := cell_at (i := 2) (v := .slice a j cap) hoo rfl
      have ldc := loadCh_at HE9.out rfl
      have HOO := Lib.hid hoo
      have HRW := Lib.hid (HROW.out.only HP9.out (fun k hk => by rw [List.mem_singleton]; exact (HNF.out k hk).1))
      have HCH := Lib.hid (show chD lf ef = (⟨k1, k2, t4, t6, t8⟩, f8, g8) by
        unfold chD
        simp only [← HC1.out, ← HC2.out, ← HC4.out, ← HC6.out, ← HC8.out])
      clear hoo
      go_wp2_with (at_builtin; go_must (refine wpList_append_one rfl _ _ rfl encCh w5.heap.size (.slice a j cap) L ⟨k1, k2, t4, t6, t8⟩ rfl (HRW.out.below (box_below0 v9 (Ch.cs ⟨k1, k2, t4, t6, t8⟩) 94)) v9.heap.size rfl (heap_alloc_new v9 (.cells (Ch.cs ⟨k1, k2, t4, t6, t8⟩) 94)) rfl ?e1 ?e2 ?_))
      case e1 => have := hHK.out; omega
      case e2 => have := HO.out.size; have := HP9.out.size; simp; omega
      intro v' v11 hrow2 hg2 _
      have hb10 : Below v9.heap.size v9 (v9.alloc (.cells (Ch.cs ⟨k1, k2, t4, t6, t8⟩) 94)) := box_below0 _ _ _
      have ho11 : Only [w0.heap.size, w3.heap.size] w5 v11 := ((HO.out.then HP9.out (fun i hi => Or.inl (by rw [List.mem_singleton] at hi; rw [hi]; simp))).step_below hb10).grown hg2 (fun k hk => Or.inr (row_own HROW.out hk))
      have hol : Only ((Value.slice a j cap).ownBlock.toList) (v9.alloc (.cells (Ch.cs ⟨k1, k2, t4, t6, t8⟩) 94)) v11 := (Only.refl _ _).grown hg2 (fun k hk => Or.inl (by rw [hk]; simp))
      have hnf : ∀ x, x = w0.heap.size ∨ x = w3.heap.size → x ∉ (Value.slice a j cap).ownBlock.toList := fun x hx hm => by
        rw [Option.mem_toList] at hm
        have := HNF.out x hm
        omega
      have hg11 := hol.heap (heap_below hb10 (lt_of_block HOO.out) HOO.out) (hnf _ (Or.inr rfl))
      have hrd11 : RdAt v11 w0.heap.size f8 g8 := ⟨hol.heap (heap_below hb10 HV9.out.lt HV9.out.row) (hnf _ (Or.inl rfl))⟩
      obtain ⟨a', cap', rfl⟩ := RowE.spell encCh hrow2
      have hlen2 : (L ++ [(⟨k1, k2, t4, t6, t8⟩ : Ch)]).length = j + 1 := by rw [List.length_append, hHK.out]; rfl
      rw [hlen2] at hrow2 ⊢
      have hfr11 : v11.frozen? ⟨w3.heap.size, 2, none⟩ = false := free_at hg11 2
      have hcc11 : v11.cell? ⟨w3.heap.size, 2, none⟩ = some (.slice a j cap) := cell_at hg11 rfl
      have hS : DcSt w5 w0.heap.size w3.heap.size n2 n3 l5 e5 (j + 1) (v11.setCell ⟨w3.heap.size, 2, none⟩ (.slice a' (j + 1) cap')) := by
        have ho12 : Only [w3.heap.size] v11 (v11.setCell ⟨w3.heap.size, 2, none⟩ (.slice a' (j + 1) cap')) := (Only.refl _ _).setCell (Or.inl (by simp)) _
        refine ⟨ho11.setCell (Or.inl (by simp)) _, ?_, ⟨a', cap', cell_row_any v11 w3.heap.size 2 _ _ _ _ hg11, ?_⟩⟩
        · rw [HSN.out]; simp only; rw [HCH.out]
          exact ⟨ho12.heap hrd11.row (by rw [List.mem_singleton]; exact HNO.out)⟩
        · rw [HSN.out]; simp only; rw [HCH.out]
          exact hrow2.only ho12 (fun k hk hm => by rw [List.mem_singleton] at hm; have := row_own hrow2 hk; have := HN5.out; omega)
      have HS := Lib.hid hS
      clear hrow2 hg2 hb10 ho11 hol hnf hg11 hrd11 hlen2 hS c2 ldc
      go_wp2_with fail
      go_roundw
      case rel => exact ⟨j + 1, by omega, by go_num, HS.out⟩
      case measure => simp [intOf]; omega
    · obtain rfl : j = K := by omega
      have hltI : ¬ (j : Int) < (j : Int) := by omega
      clear HSN
      obtain ⟨⟨L, lf, ef⟩, hqd⟩ : ∃ q, q = chsD j l5 e5 := ⟨_, rfl⟩
      rw [← hqd] at hrd hrow hk1 hk2 HD hk3
      simp only at hrd hrow hk1 hk2 HD hk3
      have HBr := Lib.hid (HB5.out.trans (ho.below HB5.out.size (fun i hi => by simp at hi; have := HGL.out; omega)))
      have hxr := ho.heap HX5.out (by have := HGL.out; have := HNG.out; have := lt_of_block HX1.out; have := HO3.out.size; simp; omega)
      have HXR := Lib.hid hxr
      have HRw := Lib.hid (hrow.mono (show w.heap.size ≤ w5.heap.size from HB5.out.size))
      have HRB := Lib.hid (show ∀ k, (Value.slice a j cap).ownBlock = some k → w.heap.size < k from fun k hk => by have := row_own hrow hk; have := HN5.out; have := HGL.out; omega)
      obtain ⟨a', cap', ea, _, _, hchs⟩ := chs_of_row hrow
      cases ea
      have HEnd := Lib.hid (end_read wr w0.heap.size lf ef hrd)
      have HSd := Lib.hid (sound_any wr wr.heap.size ⟨n2, n3, a, cap, L⟩ hchs (Nat.le_refl _) (by show L.length ≤ 1000000; omega) hk3)
      have HSD := Lib.hid (show soundP ⟨n2, n3, a, cap, L⟩ = (Rc.mk n2 n3 L).sound from rfl)
      have ldo := loadLr_at hout rfl
      have HOUT := Lib.hid hout
      rw [HSD.out] at HSd
      have stz := storeLr_at (cs := lrZ) hxr rfl rfl (by simp [Value.oneCell'])
      have HGz := Lib.hid (setRow_heap wr w.heap.size lrZ lrZ 50 (0, 0) hxr)
      have HBz := Lib.hid (below_setRow HBr.out (Nat.le_refl w.heap.size) lrZ)
      clear hqd ho hrd hout hrow hk2 hk3 hchs hxr HSD
      generalize endR lf ef = en at HD HEnd
      by_cases hen : en = 0
      · subst hen
        cases hso : (Rc.mk n2 n3 L).sound with
        | false =>
          rw [hso] at HSd HD
          have HDn := Lib.hid (show rcD s = none by rw [HD.out, if_neg (by simp)])
          clear hso HD
          go_wp2_with fail
          refine HEnd.out.mono ?_
          rintro e _ ⟨rfl, rfl⟩
          go_wp2_with fail
          refine HSd.out.mono ?_
          rintro e v2 ⟨rfl, hb2⟩
          have hxz := heap_below hb2 (lt_of_block HXR.out) HXR.out
          have stz2 := storeLr_at (cs := lrZ) hxz rfl rfl (by simp [Value.oneCell'])
          have HGz2 := Lib.hid (setRow_heap v2 w.heap.size lrZ lrZ 50 (0, 0) hxz)
          have HBz2 := Lib.hid (below_setRow (HBr.out.trans (hb2.mono HBr.out.size)) (Nat.le_refl w.heap.size) lrZ)
          clear hb2 hxz
          go_wp2_with fail
          (try simp only [Exit.inBlock, Exit.then])
          refine bodyPost_ret (results2 rfl _ rfl (loadLr_at HGz2.out rfl)) rfl ?_
          exact ⟨by unfold DecE; rw [HDn.out]; rfl, HBz2.out⟩
        | true =>
          rw [hso] at HSd HD
          have HDn := Lib.hid (show rcD s = some ⟨n2, n3, L⟩ by rw [HD.out, if_pos (by simp)])
          clear hso HD
          go_wp2_with fail
          refine HEnd.out.mono ?_
          rintro e _ ⟨rfl, rfl⟩
          go_wp2_with fail
          refine HSd.out.mono ?_
          rintro e v2 ⟨rfl, hb2⟩
          have hxz := heap_below hb2 (lt_of_block HXR.out) HXR.out
          have hoz := heap_below hb2 (lt_of_block HOUT.out) HOUT.out
          have ldo2 := loadLr_at hoz rfl
          have stz2 := storeLr_at (cs := lrC n2 n3 a L.length cap) hxz rfl rfl (by simp [Value.oneCell'])
          have HGz2 := Lib.hid (setRow_heap v2 w.heap.size lrZ (lrC n2 n3 a L.length cap) 50 (0, 0) hxz)
          have HBz2 := Lib.hid (below_setRow (HBr.out.trans (hb2.mono HBr.out.size)) (Nat.le_refl w.heap.size) (lrC n2 n3 a L.length cap))
          have HRz := Lib.hid ((HRw.out.below hb2).only (show Only [w.heap.size] v2 (v2.setRow w.heap.size (lrC n2 n3 a L.length cap)) from (Only.refl _ _).setRow (Or.inl (by simp)) _) (fun k hk hm => by rw [List.mem_singleton] at hm; have := HRB.out k hk; omega))
          clear hb2 hxz hoz
          go_wp2_with fail
          (try simp only [Exit.inBlock, Exit.then])
          refine bodyPost_ret (results2 rfl _ rfl (loadLr_at HGz2.out rfl)) rfl ?_
          refine ⟨?_, HBz2.out⟩
          unfold DecE
          rw [HDn.out]
          refine ⟨a, cap, ?_, ?_⟩
          · rfl
          · exact HRz.out
      · have hb0 : (en != 0) = true := by rw [bne_iff_ne]; exact hen
        have HDn := Lib.hid (show rcD s = none by rw [HD.out, if_neg (fun h => hen h.1)])
        clear hen HD
        go_wp2_with fail
        refine HEnd.out.mono ?_
        rintro e _ ⟨rfl, rfl⟩
        go_wp2_with fail
        (try simp only [Exit.inBlock, Exit.then])
        refine bodyPost_ret (results2 rfl _ rfl (loadLr_at HGz.out rfl)) rfl ?_
        exact ⟨by unfold DecE; rw [HDn.out]; rfl, HBz.out⟩
end
end

end Go.Proofs.YtjpkdhnponcciaaGreatDoor

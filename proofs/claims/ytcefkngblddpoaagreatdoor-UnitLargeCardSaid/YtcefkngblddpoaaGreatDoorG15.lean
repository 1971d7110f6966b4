/-
  Walks: the validity of an archive, by the reference. Conditions: pairs in memory, not too many. Walks: whether a description is valid and whether a pair may be in a data set, by the program. Condition: the laid table of segments' codes. Walks: whether a pair may be in a data set, by the program. Conditions: the description is valid; the laid table of segments' codes.
  Walks: the end behind pairs, by the program; the address of a record, by the reference. Conditions: not too many pairs. Walk: whether a content is valid, by the program. Conditions: not too many pairs; the laid table of segments' codes.
  Walks: the records of pairs, by the reference. Condition: not too many pairs. Walks: the address of a record, by the reference. Conditions: not too many pairs; addresses that are not too large.
-/
import Derived.Test.YtcefkngblddpoaaGreatDoorG10
import Derived.Test.YtcefkngblddpoaaGreatDoorG4
import Derived.Test.YtcefkngblddpoaaGreatDoorG9
import Derived.Test.YtcefkngblddpoaaGreatDoorG14
import Derived.Test.YtcefkngblddpoaaGreatDoorG7
import Derived.Deep.RegionHeld3
import Derived.Lib.QuietBelow
namespace Go.Proofs.YtcefkngblddpoaaGreatDoor

section
set_option maxRecDepth 100000
set_option maxHeartbeats 4000000
section
open Go.RowKit Go.Sort
variable {z : Rest}
theorem infoI49 : (Tryz.prog.info? 3).map (fun i => (i.zero, i.size, i.bytes)) = some (some (.int .i64 0), 1, 8) := by kernel_rfl
abbrev intsV (l : List Int) : List Value := l.map (Value.int .i64)
/-- The cells of an own row that is not empty. -/
theorem own_cells {w : World} {base : Nat} {e : TypeId} {v : Value} {n : Nat} {xs : List Value} (h : w.ownsRow base e 1 v n xs) (hn : 0 < n) : ∃ g cap, v = .slice (some ⟨g, 0, none⟩) n cap ∧ base ≤ g ∧ g < w.heap.size ∧ n ≤ cap ∧ cap ≤ 9223372036854775807 ∧ ∀ (i : Nat) (x : Value), xs[i]? = some x → w.cell? ⟨g, i, none⟩ = some x := by
 rcases h.2 with ⟨rfl, h0⟩ | ⟨g, cap, cur, rfl, hbase, hblk, q1, q2, q3, q4⟩
 · omega
 · refine ⟨g, cap, rfl, hbase, lt_of_block hblk, q1, by unfold maxLen at q2; exact q2, fun i x hx => ?_⟩
   rw [← q4, Nat.mul_one] at hx
   rw [List.getElem?_take] at hx
   split at hx
   · rw [cell_of_row w g i cur e (0, 0) hblk]; simpa using hx
   · cases hx
theorem lit_n {W : World} {base k n : Nat} (e : TypeId) (cs : Array Value) (xs : List Value) (hk : k = W.heap.size) (hb : base ≤ W.heap.size) (hm : n ≤ maxLen) (hs : cs.size = n) (hx : cs.toList = xs) : (W.alloc (.cells cs e)).ownsRow base e 1 (.slice (some ⟨k, 0, none⟩) n n) n xs := by
 subst hk hx; exact World.ownsRow_lit (base := base) (e := e) (size := 1) W cs n hb hm (by rw [hs, Nat.mul_one])
section
attribute [local go_sem ↓] loadDs_down
theorem numbers_any (org fmt len blk : Int) (w : World) : Calls Tryz.prog 124 #[.agg (dsv z org fmt len blk)] w fun e w' => ∃ v, e = .returned v ∧ w'.ownsRow w.heap.size 3 1 v 17 (intsV (numsL z org fmt len blk)) ∧ Below w.heap.size w w' := by
 go_enter Tryz.func124, Tryz.ntmps124
 go_wp2_with fail
 go_ret
 refine ⟨_, rfl, ?_, ?_⟩
 · exact lit_n 3 _ _ (by simp) (by simp) (by simp [maxLen]) rfl rfl
 · exact (box_below w _ _).alloc (by simp) _
theorem r14valid_any (w : World) (B : Nat) (a : Option Addr) (cap : Nat) (l : List Pr) (org fmt len blk ap : Int) (h : Prs w B a l) (hB : B ≤ w.heap.size) (hl : l.length ≤ 5000) (hvo : z.vol.length ≤ 9223372036854775807) (how : z.own.length ≤ 9223372036854775807) :
 Calls Tryz.prog 73 #[.agg (conC z org fmt len blk ap a l.length cap)] w fun e w' => e = .returned (.bool (archP z org fmt len blk ap l)) ∧ Below w.heap.size w w' := by
 obtain ⟨i0, hi0, hz0, hz1, hz2⟩ := info_parts infoI49
 have hA := heap_alloc_new w (.cells (conC z org fmt len blk ap a l.length cap) 169)
 have HB0 := Lib.hid (box_below w (conC z org fmt len blk ap a l.length cap) 169)
 have HS := Lib.hid h
 obtain ⟨w0, hw0⟩ : ∃ w0, w0 = w.alloc (.cells (conC z org fmt len blk ap a l.length cap) 169) := ⟨_, rfl⟩
 rw [← hw0] at hA HB0
 have HA := Lib.hid hA
 have HAa := Lib.hid ((halloc w0 (.cells #[.int .i64 ap] 3) (lt_of_block hA)).trans hA)
 have ld : (loadDs ⟨w.heap.size, 0, none⟩).run Tryz.prog w0.drew = .ok (.agg (dsv z org fmt len blk)) w0.drew := loadDs_con (w := w0.drew) hA
 have ca : w0.drew.cell? ⟨w.heap.size, 21, none⟩ = some (.int .i64 ap) := cell_at (w := w0.drew) (i := 21) hA rfl
 have lda : (loadDs ⟨w.heap.size, 0, none⟩).run Tryz.prog (w0.alloc (.cells #[.int .i64 ap] 3)).drew = .ok (.agg (dsv z org fmt len blk)) (w0.alloc (.cells #[.int .i64 ap] 3)).drew := loadDs_con (w := (w0.alloc (.cells #[.int .i64 ap] 3)).drew) HAa.out
 have caa : (w0.alloc (.cells #[.int .i64 ap] 3)).drew.cell? ⟨w.heap.size, 21, none⟩ = some (.int .i64 ap) := cell_at (w := (w0.alloc (.cells #[.int .i64 ap] 3)).drew) (i := 21) HAa.out rfl
 have HW0 := Lib.hid hw0
 clear hA hw0 h
 go_enter Tryz.func73, Tryz.ntmps73
 go_wp2_with fail
 rw [← HW0.out]
 go_region_held3 (fun w' => (loadDs ⟨w.heap.size, 0, none⟩).run Tryz.prog w' = .ok (.agg (dsv z org fmt len blk)) w' ∧ w'.cell? ⟨w.heap.size, 21, none⟩ = some (.int .i64 ap)) (first | (with_reducible exact ⟨ld4, ca4⟩) | (with_reducible exact ⟨ld2a, ca2a⟩) | (with_reducible exact ⟨ld2, ca2⟩) | (with_reducible exact ⟨lda, caa⟩) | exact ⟨ld, ca⟩ | fail)
  ((first
    | (go_at_call 124
       (with_reducible refine (numbers_any (z := z) org fmt len blk _).mono ?_)
       rintro e w2 ⟨v2, rfl, ho2, hb2⟩
       have HW2 := Lib.hid (show Below w0.heap.size w0 w2 by first | exact below_drew1.trans hb2 | exact bel_ad.trans (hb2.mono (by simp)))
       have HO2 := Lib.hid (show w2.ownsRow w0.heap.size 3 1 v2 17 (intsV (numsL z org fmt len blk)) by first | exact ho2 | exact own_mono ho2 (by simp))
       first | have HF2 := Lib.hid (heap_below hb2 (show w0.heap.size < (w0.alloc (.cells #[.int .i64 ap] 3)).drew.heap.size by simp) (heap_alloc_new w0 (.cells #[.int .i64 ap] 3))) | skip
       have HA2 := Lib.hid (heap_below HW2.out (lt_of_block HA.out) HA.out)
       have HA2a := Lib.hid ((halloc w2 (.cells #[.int .i64 ap] 3) (lt_of_block HA2.out)).trans HA2.out)
       have ld2 := loadDs_con HA2.out
       have ca2 := cell_at (i := 21) (v := .int .i64 ap) HA2.out rfl
       have ld2a := loadDs_con HA2a.out
       have ca2a := cell_at (i := 21) (v := .int .i64 ap) HA2a.out rfl
       clear ho2)
    | (refine step_append_row w0.heap.size 3 i0 (.int .i64 0) 1 8 hi0 hz0 hz1 hz2 rfl (by decide) (by decide) rfl (.tmp 8) (.tmp 11) 81 rfl Tryz.underlying81 _ rfl _ _ (HO2.out.alloc _) (some ⟨w2.heap.size, 0, none⟩) 1 1 rfl [.int .i64 ap] rfl (Or.inl ⟨_, rfl, news_at (cs := #[.int .i64 ap]) (heap_alloc_new w2 _)⟩) (by simp [Value.oneCell']) (by omega) (by have := HW2.out.size; simp; omega) ?_
       intro v4 w4 ho4 hg4
       have hw2a := HW2.out.alloc HW2.out.size (.cells #[.int .i64 ap] 3)
       have HW4 := Lib.hid (hw2a.grown hg4 hw2a.size (fun k hk => row_own HO2.out hk))
       have HO4 := Lib.hid ho4
       have HA4 := Lib.hid (heap_below HW4.out (lt_of_block HA.out) HA.out)
       have ld4 := loadDs_con HA4.out
       have ca4 := cell_at (i := 21) (v := .int .i64 ap) HA4.out rfl
       clear ho4 hg4 hw2a)
    | (refine step_append_row w0.heap.size 3 i0 (.int .i64 0) 1 8 hi0 hz0 hz1 hz2 rfl (by decide) (by decide) rfl (.tmp 8) (.tmp 11) 81 rfl Tryz.underlying81 _ rfl _ _ HO2.out (some ⟨w0.heap.size, 0, none⟩) 1 1 rfl [.int .i64 ap] rfl (Or.inl ⟨_, rfl, news_at (cs := #[.int .i64 ap]) HF2.out⟩) (by simp [Value.oneCell']) (by omega) HW2.out.size ?_
       intro v4 w4 ho4 hg4
       have HW4 := Lib.hid (HW2.out.grown hg4 HW2.out.size (fun k hk => row_own HO2.out hk))
       have HO4 := Lib.hid ho4
       have HA4 := Lib.hid (heap_below HW4.out (lt_of_block HA.out) HA.out)
       have ld4 := loadDs_con HA4.out
       have ca4 := cell_at (i := 21) (v := .int .i64 ap) HA4.out rfl
       clear ho4 hg4)
    | fail))
 all_goals
  clear ld4 ca4 ld2 ca2 ld2a ca2a lda caa ld ca hb2
  have HO5 := Lib.hid (show w4.ownsRow w0.heap.size 3 1 v4 18 (intsV (numsL z org fmt len blk ++ [ap])) from HO4.out)
  obtain ⟨g, c4, rfl, _, hg2, _, _, hcel⟩ := own_cells HO5.out (by omega)
  have HCEL := Lib.hid (fun (i : Nat) (hi : i < (numsL z org fmt len blk ++ [ap]).length) => show w4.cell? ⟨g, i, none⟩ = some (.int .i64 ((numsL z org fmt len blk ++ [ap])[i]'hi)) from hcel i _ (by rw [List.getElem?_map, List.getElem?_eq_getElem hi]; rfl))
  have HNL := Lib.hid (show (numsL z org fmt len blk ++ [ap]).length = 18 from rfl)
  have HR := Lib.hid (show archP z org fmt len blk ap l = ((numsL z org fmt len blk ++ [ap]).all numV && (decide (z.own.length ≤ 31) && decide (z.vol.length ≤ 31) && decide (l.length ≤ 1024)) && l.all prOk) from rfl)
  have HBF := Lib.hid (HB0.out.trans (HW4.out.mono HB0.out.size))
  clear hcel HO5 HO4
  generalize numsL z org fmt len blk ++ [ap] = NL at HCEL HNL HR
  go_wp2_with fail
  go_loop [4] (fun k => ∃ j : Nat, j ≤ 18 ∧ k = .int .i64 j ∧ ∀ x ∈ NL.take j, numV x = true) (fun k => 18 - (intOf k).toNat)
  case atStart => exact ⟨0, by omega, rfl, by simp⟩
  case round =>
   obtain ⟨j, hj, rfl, hall⟩ := hrel
   by_cases hlt : j < 18
   · have hjn : j < NL.length := by rw [HNL.out]; exact hlt
     have hcj := HCEL.out j hjn
     have HN := Lib.hid (fun (hp : numV NL[j] = true) => show ∀ x ∈ NL.take (j + 1), numV x = true by
      intro x hx
      rw [List.take_succ_eq_append_getElem hjn] at hx
      rcases List.mem_append.1 hx with hx | hx
      · exact hall x hx
      · obtain rfl := List.mem_singleton.1 hx; exact hp)
     have HY := Lib.hid (fun (hp : numV NL[j] = false) => show NL.all numV = false by
      rw [List.all_eq_false]; exact ⟨NL[j], List.getElem_mem hjn, by rw [hp]; simp⟩)
     clear hall
     generalize NL[j] = x at hcj HN HY
     by_cases h1 : x < 0
     · have H := Lib.hid (show archP z org fmt len blk ap l = false by rw [HR.out, HY.out (by simp [numV]; omega)]; rfl)
       go_wp2_with fail
       go_ret
       exact ⟨by rw [H.out]; rfl, HBF.out⟩
     · by_cases h2 : 1099511627776 < x
       · have H := Lib.hid (show archP z org fmt len blk ap l = false by rw [HR.out, HY.out (by simp [numV]; omega)]; rfl)
         go_wp2_with fail
         go_ret
         exact ⟨by rw [H.out]; rfl, HBF.out⟩
       · have H := Lib.hid (HN.out (by simp [numV]; omega))
         go_wp2_with fail
         go_round
         case rel => exact ⟨j + 1, by omega, by go_num, H.out⟩
         case measure => simp [intOf]; omega
   · obtain rfl : j = 18 := by omega
     have HALL := Lib.hid (show NL.all numV = true by
      rw [List.take_of_length_le (by rw [HNL.out]; omega)] at hall
      rw [List.all_eq_true]; exact hall)
     clear hall
     have c16 := cell_at (i := 16) (v := .string ⟨z.vol.toArray⟩) HA4.out rfl
     have c17 := cell_at (i := 17) (v := .string ⟨z.own.toArray⟩) HA4.out rfl
     have c22 := cell_at (i := 22) (v := .slice a l.length cap) HA4.out rfl
     go_wp2_with fail
     go_loop [5] (fun k => ∃ j : Nat, j ≤ l.length ∧ k = .int .i64 j ∧ ∀ x ∈ l.take j, prOk x = true) (fun k => l.length - (intOf k).toNat)
     case atStart => exact ⟨0, by omega, rfl, by simp⟩
     case round =>
      obtain ⟨j, hj, rfl, hall⟩ := hrel
      by_cases hlt : j < l.length
      · obtain ⟨b, off, rfl, hbb, hc1, hc2⟩ := HS.out.get hlt
        have hr1 : w4.cell? ⟨b, off + j * 2, none⟩ = some (.string ⟨l[j].1.toArray⟩) := ((HBF.out.mono hB).cell (p := ⟨b, off + j * 2, none⟩) hbb).trans hc1
        have hr2 : w4.cell? ⟨b, off + j * 2 + 1, none⟩ = some (.string ⟨l[j].2.toArray⟩) := ((HBF.out.mono hB).cell (p := ⟨b, off + j * 2 + 1, none⟩) hbb).trans hc2
        have HN := Lib.hid (fun (hp : prOk l[j] = true) => show ∀ x ∈ l.take (j + 1), prOk x = true by
         intro x hx
         rw [List.take_succ_eq_append_getElem hlt] at hx
         rcases List.mem_append.1 hx with hx | hx
         · exact hall x hx
         · obtain rfl := List.mem_singleton.1 hx; exact hp)
        have HY := Lib.hid (fun (hp : prOk l[j] = false) => show l.all prOk = false by
         rw [List.all_eq_false]; exact ⟨l[j], List.getElem_mem hlt, by rw [hp]; simp⟩)
        clear hall hc1 hc2
        generalize l[j] = x at hr1 hr2 HN HY
        obtain ⟨k, r⟩ := x
        simp only at hr1 hr2
        by_cases h1 : 32 < k.length
        · have H := Lib.hid (show archP z org fmt len blk ap l = false by rw [HR.out, HY.out (by simp [prOk]; omega), Bool.and_false])
          have g1 : decide ((32 : Int) < (k.length : Int)) = true := by simp; omega
          go_wp2_with fail
          go_ret
          exact ⟨by rw [H.out]; rfl, HBF.out⟩
        · have g1 : decide ((32 : Int) < (k.length : Int)) = false := by simp; omega
          by_cases h2 : 1000 < r.length
          · have H := Lib.hid (show archP z org fmt len blk ap l = false by rw [HR.out, HY.out (by simp [prOk]; omega), Bool.and_false])
            have g2 : decide ((1000 : Int) < (r.length : Int)) = true := by simp; omega
            go_wp2_with fail
            go_ret
            exact ⟨by rw [H.out]; rfl, HBF.out⟩
          · have g2 : decide ((1000 : Int) < (r.length : Int)) = false := by simp; omega
            have H := Lib.hid (HN.out (by simp [prOk]; omega))
            go_wp2_with fail
            go_round
            case rel => exact ⟨j + 1, by omega, by go_num, H.out⟩
            case measure => simp [intOf]; omega
      · obtain rfl : j = l.length := by omega
        have HALL2 := Lib.hid (show l.all prOk = true by
         rw [List.take_of_length_le (Nat.le_refl _)] at hall
         rw [List.all_eq_true]; exact hall)
        have HR2 := Lib.hid (show archP z org fmt len blk ap l = (decide (z.own.length ≤ 31) && decide (z.vol.length ≤ 31) && decide (l.length ≤ 1024)) by rw [HR.out, HALL.out, HALL2.out, Bool.and_true, Bool.true_and])
        clear hall
        by_cases h1 : z.own.length ≤ 31
        · have g1 : decide ((z.own.length : Int) ≤ 31) = true := by simp; omega
          by_cases h2 : z.vol.length ≤ 31
          · have g2 : decide ((z.vol.length : Int) ≤ 31) = true := by simp; omega
            by_cases h3 : l.length ≤ 1024
            · have g3 : decide ((l.length : Int) ≤ 1024) = true := by simp; omega
              have HR3 := Lib.hid (show archP z org fmt len blk ap l = true by rw [HR2.out]; simp [h1, h2, h3])
              go_wp2_with fail
              go_ret
              exact ⟨by rw [HR3.out]; rfl, HBF.out⟩
            · have g3 : decide ((l.length : Int) ≤ 1024) = false := by simp; omega
              have HR3 := Lib.hid (show archP z org fmt len blk ap l = false by rw [HR2.out]; simp [h3])
              go_wp2_with fail
              go_ret
              exact ⟨by rw [HR3.out]; rfl, HBF.out⟩
          · have g2 : decide ((z.vol.length : Int) ≤ 31) = false := by simp; omega
            have HR3 := Lib.hid (show archP z org fmt len blk ap l = false by rw [HR2.out]; simp [h2])
            go_wp2_with fail
            go_ret
            exact ⟨by rw [HR3.out]; rfl, HBF.out⟩
        · have g1 : decide ((z.own.length : Int) ≤ 31) = false := by simp; omega
          have HR3 := Lib.hid (show archP z org fmt len blk ap l = false by rw [HR2.out]; simp [h1])
          go_wp2_with fail
          go_ret
          exact ⟨by rw [HR3.out]; rfl, HBF.out⟩
end
end
section
open Go.RowKit Go.Sort
variable {z : Rest}
/-- Whether a description is valid. -/
def descP (z : Rest) (org fmt len blk : Int) : Bool := (decide (1 ≤ z.id) && decide (z.id ≤ 1099511627776)) && (if org = 0 then dsV org fmt len blk else kvalP z org fmt len blk)
section
attribute [local go_sem ↓] loadDs_down
end
end
section
open Go.RowKit Go.Sort
variable {z : Rest}
def keyZ (z : Rest) (len : Int) (r : By) : Option By := keyOf z.kat.toNat z.klen.toNat len.toNat r
def relB (k : By) : Bool := decide (1 ≤ numN k) && decide (numN k ≤ 65536)
/-- Whether a pair may be in a data set, apart from the order of its keys. -/
def alP (z : Rest) (org fmt len : Int) (p : Pr) : Bool :=
 if org = 3 then decide (keyZ z len p.2 = some p.1)
 else if org = 2 then relB p.1 && decide ((p.2.length : Int) = len)
 else if org = 1 then decide (1 ≤ p.2.length) && decide ((p.2.length : Int) ≤ len)
 else okR fmt len p.2
theorem desc_keyed {fmt len blk : Int} (h : descP z 3 fmt len blk = true) : kvalP z 3 fmt len blk = true := by
 unfold descP at h; simp only [Bool.and_eq_true] at h; rw [if_neg (by decide)] at h; exact h.2
theorem desc_kval {org fmt len blk : Int} (h : descP z org fmt len blk = true) (ho : org ≠ 0) : kvalP z org fmt len blk = true := by
 unfold descP at h; simp only [Bool.and_eq_true] at h; rw [if_neg ho] at h; exact h.2
theorem build_k {fmt len blk : Int} {l : List By} (hd : dsV 0 fmt len blk = true) : (buildRes 0 fmt len blk 0 l).2 = if alwV fmt len l = true then 0 else 2 := by
 unfold buildRes
 rw [if_pos ⟨hd, rfl⟩]
 split <;> rfl
section
attribute [local go_sem ↓] loadDs_down
end
end
end

section
section
open Go.RowKit Go.Sort
variable {z : Rest}
section
attribute [local go_sem ↓] loadDs_down
end
end
section
open Go.RowKit Go.Sort
variable {z : Rest}
/-- Whether the key of a pair is behind the last one. -/
def prevOk (pre : List Pr) (p : Pr) : Bool := match pre.getLast? with
 | none => true
 | some q => Op.bytesLess q.1 p.1
/-- The key that a pair must have. -/
def wantP (org : Int) (iv : Nat) (pre : List Pr) (p : Pr) : By := if org = 0 then slotB (pre.length + 1) else if org = 1 then (nextE iv (behindE iv pre) p.2).1 else p.1
def stepP (z : Rest) (org fmt len : Int) (pre : List Pr) (p : Pr) : Bool := alP z org fmt len p && prevOk pre p && decide (wantP org z.ivl.toNat pre p = p.1)
/-- Whether pairs may be the pairs of a data set. -/
def valL (z : Rest) (org fmt len : Int) (l : List Pr) : Bool := decide (∀ i, (h : i < l.length) → stepP z org fmt len (l.take i) l[i] = true)
theorem valL_no {org fmt len : Int} {l : List Pr} {j : Nat} (h : j < l.length) (hs : stepP z org fmt len (l.take j) l[j] = false) : valL z org fmt len l = false := by
 unfold valL
 rw [decide_eq_false_iff_not]
 intro hall
 rw [hall j h] at hs; cases hs
theorem valL_yes {org fmt len : Int} {l : List Pr} (h : ∀ i, (hi : i < l.length) → i < l.length → stepP z org fmt len (l.take i) l[i] = true) : valL z org fmt len l = true := by
 unfold valL
 rw [decide_eq_true_iff]
 exact fun i hi => h i hi hi
/-- Whether a content is valid. -/
def valP (z : Rest) (org fmt len blk ap : Int) (l : List Pr) : Bool :=
 descP z org fmt len blk && (decide (0 ≤ ap) && decide (ap ≤ 1099511627776)) && decide (l.length ≤ 1024) && archP z org fmt len blk ap l && valL z org fmt len l
theorem kval_ivl {org fmt len blk : Int} (h : kvalP z org fmt len blk = true) : ∃ iv : Nat, z.ivl = (iv : Int) ∧ 1 ≤ iv ∧ iv ≤ 512 := by
 unfold kvalP ivlP at h
 simp only [Bool.and_eq_true, Bool.or_eq_true, decide_eq_true_eq] at h
 obtain ⟨iv, hv⟩ := Int.eq_ofNat_of_zero_le (show 0 ≤ z.ivl by omega)
 exact ⟨iv, hv, by omega, by omega⟩
section
attribute [local go_sem ↓] loadDs_down storeDs_down
end
end
end

section
set_option maxRecDepth 100000
set_option maxHeartbeats 4000000
section
open Go.RowKit Go.Sort
variable {z : Rest}
theorem rrecords_any (w : World) (B : Nat) (a : Option Addr) (cap : Nat) (l : List Pr) (h : Prs w B a l) (hB : B ≤ w.heap.size) (hl : l.length ≤ 5000) :
 Calls Tryz.prog 75 #[.slice a l.length cap] w fun e w' => ∃ v, e = .returned v ∧ w'.ownsRow w.heap.size 9 1 v (l.map Prod.snd).length ((l.map Prod.snd).map sv) ∧ Below w.heap.size w w' := by
 obtain ⟨i0, hi0, hz0, hz1, hz2⟩ := info_parts infoS
 have HS := Lib.hid h
 have hown : (w.alloc (.cells #[] 9)).ownsRow w.heap.size 9 1 (.slice (some ⟨w.heap.size, 0, none⟩) 0 0) 0 [] := lit0 _ rfl (Nat.le_refl _)
 clear h
 go_enter Tryz.func75, Tryz.ntmps75
 go_wp2_with fail
 go_loopw [3, 4] (fun v k wr => ∃ j : Nat, j ≤ l.length ∧ k = .int .i64 j ∧ wr.ownsRow w.heap.size 9 1 v ((l.take j).map Prod.snd).length (((l.take j).map Prod.snd).map sv) ∧ Below w.heap.size w wr) (fun _ k _ => l.length - (intOf k).toNat)
 case atStart => exact ⟨0, by omega, rfl, hown, box_below w _ _⟩
 case round =>
  clear hown
  obtain ⟨j, hj, rfl, ho, hb⟩ := hrel
  obtain ⟨oa, oc, rfl, _⟩ := news_own ho
  have HO := Lib.hid ho
  have HB := Lib.hid hb
  clear ho hb
  by_cases hlt : j < l.length
  · obtain ⟨b, off, rfl, hbb, hc1, hc2⟩ := HS.out.get hlt
    have hr2 : wr.cell? ⟨b, off + j * 2 + 1, none⟩ = some (.string ⟨l[j].2.toArray⟩) := ((HB.out.mono hB).cell (p := ⟨b, off + j * 2 + 1, none⟩) hbb).trans hc2
    have HT := Lib.hid (show (l.take (j + 1)).map Prod.snd = (l.take j).map Prod.snd ++ [l[j].2] by rw [List.take_succ_eq_append_getElem hlt, List.map_append]; rfl)
    have HLE := Lib.hid (show ((l.take j).map Prod.snd).length ≤ 5000 by rw [List.length_map, List.length_take]; omega)
    clear hc1 hc2
    generalize l[j].2 = s at hr2 HT
    generalize (l.take j).map Prod.snd = O at HO HT HLE
    have hle := HLE.out
    go_wp2_with (refine wpList_append_own _ rfl _ _ 69 rfl w.heap.size 9 i0 (.string ByteArray.empty) 1 16 Tryz.underlying69 hi0 hz0 hz1 hz2 rfl (by decide) _ _ _ rfl (HO.out.alloc _) _ 1 1 [.string ⟨s.toArray⟩] rfl rfl ?b1 ?b2 ?b3 ?b4 ?b5 ?_)
    case b1 => exact news_at (cs := #[.string ⟨s.toArray⟩]) (heap_alloc_new _ _)
    case b2 => simp [Value.oneCell']
    case b3 => simp only [maxLen]; omega
    case b4 => omega
    case b5 => have := HB.out.size; simp; omega
    intro v3 w3 ho3 hg3 _
    have HB3 := Lib.hid ((HB.out.alloc HB.out.size (.cells #[.string ⟨s.toArray⟩] 9)).grown hg3 (HB.out.alloc HB.out.size _).size (fun k hk => row_own HO.out hk))
    have HO3 := Lib.hid (show w3.ownsRow w.heap.size 9 1 v3 (O ++ [s]).length ((O ++ [s]).map sv) by simpa [sv] using ho3)
    clear ho3 hg3 hr2
    go_wp2_with fail
    go_roundw
    case rel => exact ⟨j + 1, by omega, by go_num, by rw [HT.out]; exact HO3.out, HB3.out⟩
    case measure => simp [intOf]; omega
  · obtain rfl : j = l.length := by omega
    obtain ⟨O, hO⟩ : ∃ O, O = (l.take l.length).map Prod.snd := ⟨_, rfl⟩
    rw [← hO] at HO ⊢
    rw [List.take_length] at hO
    have HQ := Lib.hid hO
    clear hO
    go_wp2_with fail
    go_ret
    exact ⟨_, rfl, by rw [← HQ.out]; exact HO.out, HB.out⟩
/-! What the steps of the reference come to. -/
theorem laid_of {fmt len : Int} {iv : Nat} {l : List Pr} {j : Nat} (hj : j ≤ l.length) (hiv : z.ivl = (iv : Int)) (h : ∀ i, (hi : i < l.length) → i < j → stepP z 1 fmt len (l.take i) l[i] = true) : Laid iv (l.take j) := by
 intro i hi
 rw [List.length_take] at hi
 have h1 := h i (by omega) (by omega)
 unfold stepP wantP at h1
 rw [if_neg (by decide), if_pos rfl] at h1
 simp only [Bool.and_eq_true, decide_eq_true_eq] at h1
 have hn : z.ivl.toNat = iv := by rw [hiv]; simp
 rw [hn] at h1
 rw [List.getElem_take, List.take_take, Nat.min_eq_left (by omega)]
 exact h1.2.symm
theorem laid_addr {fmt len : Int} {iv : Nat} {l : List Pr} {j : Nat} (hl : l.length ≤ 5000) (hj : j ≤ l.length) (hiv : z.ivl = (iv : Int)) (h1 : 1 ≤ iv) (h2 : iv ≤ 512) (h : ∀ i, (hi : i < l.length) → i < j → stepP z 1 fmt len (l.take i) l[i] = true) (r : By) :
 addrR iv (l.take j) r = (nextE iv (behindE iv (l.take j)) r).1 ∧ ∀ p ∈ l.take j, numN p.1 ≤ 1000000000 := by
 have hL := laid_of hj hiv h
 have hlen : (l.take j).length ≤ 5000 := by rw [List.length_take]; omega
 refine ⟨addr_eq h1 h2 _ r (by omega) hL, fun p hp => ?_⟩
 have := ((inv_of h1 h2 _ (by omega) hL).all p hp).2
 omega
theorem alw_all {fmt len : Int} {l : List Pr} : alwV fmt len (l.map Prod.snd) = l.all fun p => okR fmt len p.2 := by
 unfold alwV; rw [List.all_map]; rfl
theorem seq_no {fmt len : Int} {l : List Pr} (h : alwV fmt len (l.map Prod.snd) = false) : valL z 0 fmt len l = false := by
 rw [alw_all, List.all_eq_false] at h
 obtain ⟨p, hp, hk⟩ := h
 obtain ⟨i, hi, rfl⟩ := List.mem_iff_getElem.1 hp
 refine valL_no hi ?_
 have : alP z 0 fmt len l[i] = false := by unfold alP; rw [if_neg (by decide), if_neg (by decide), if_neg (by decide)]; simpa using hk
 unfold stepP; rw [this]; rfl
theorem seq_yes {fmt len : Int} {l : List Pr} (h : alwV fmt len (l.map Prod.snd) = true) {j : Nat} (hj : j < l.length) : alP z 0 fmt len l[j] = true := by
 rw [alw_all, List.all_eq_true] at h
 unfold alP; rw [if_neg (by decide), if_neg (by decide), if_neg (by decide)]
 exact h _ (List.getElem_mem hj)
end
section
open Go.RowKit Go.Sort
variable {z : Rest}
theorem rslot_any' (n : Nat) (ni : Int) (h : ni = (n : Int)) (w : World) (hn : n ≤ 1099511627776) : Calls Tryz.prog 80 #[.int .i64 ni] w fun e w' => e = .returned (sv (slotB n)) ∧ Below w.heap.size w w' := by
 subst h; exact rslot_any n w hn
theorem onR_take (iv page : Nat) (l : List Pr) (j : Nat) (h : j < l.length) : onR iv page (l.take (j + 1)) = onR iv page (l.take j) ++ (if numN l[j].1 / iv = page then [l[j].2] else []) := by
 unfold onR
 rw [List.take_succ_eq_append_getElem h, List.filter_append, List.map_append]
 congr 1
 by_cases e : numN l[j].1 / iv = page <;> simp [e]
theorem onR_len (iv page : Nat) (l : List Pr) : (onR iv page l).length ≤ l.length := by
 unfold onR; rw [List.length_map]; exact List.length_filter_le _ _
theorem onR_mem {iv page : Nat} {l : List Pr} {s : By} (h : s ∈ onR iv page l) : ∃ p ∈ l, s = p.2 := by
 unfold onR at h
 obtain ⟨p, hp, rfl⟩ := List.mem_map.1 h
 exact ⟨p, (List.mem_filter.1 hp).1, rfl⟩
theorem onR_sum (iv page : Nat) (l : List Pr) (hl : l.length ≤ 5000) (hk : ∀ p ∈ l, p.2.length ≤ 100000) : ((onR iv page l).map List.length).sum ≤ 500000000 := by
 have h1 := onR_len iv page l
 have h2 := sum_le (l := (onR iv page l).map List.length) (k := 100000) (fun x hx => by
  obtain ⟨s, hs, rfl⟩ := List.mem_map.1 hx
  obtain ⟨p, hp, rfl⟩ := onR_mem hs
  exact hk p hp)
 rw [List.length_map] at h2
 omega
theorem pageR_last {iv : Nat} {l : List Pr} (h : l ≠ []) : pageR iv l = numN (l[l.length - 1]'(by have := List.length_pos_iff.2 h; omega)).1 / iv := by
 unfold pageR
 rw [List.getLast?_eq_getElem?, List.getElem?_eq_getElem (by have := List.length_pos_iff.2 h; omega)]
theorem address_any (w : World) (B : Nat) (a : Option Addr) (cap : Nat) (l : List Pr) (org fmt len blk : Int) (iv : Nat) (r : By) (h : Prs w B a l) (hB : B ≤ w.heap.size) (hiv : z.ivl = (iv : Int)) (hv1 : 1 ≤ iv) (hv2 : iv ≤ 512)
 (hl : l.length ≤ 5000) (hk : ∀ p ∈ l, p.1.length ≤ 100000 ∧ p.2.length ≤ 100000 ∧ numN p.1 ≤ 1000000000) (hr : r.length ≤ 100000) :
 Calls Tryz.prog 79 #[.agg (dsv z org fmt len blk), .slice a l.length cap, sv r] w fun e w' => e = .returned (sv (addrR iv l r)) ∧ Below w.heap.size w w' := by
 obtain ⟨i0, hi0, hz0, hz1, hz2⟩ := info_parts infoS
 have HB0 := Lib.hid (box_below w (dsv z org fmt len blk) 45)
 have HD0 := Lib.hid (heap_alloc_new w (.cells (dsv z org fmt len blk) 45))
 have d70 := cell_at (i := 7) (v := .int .i64 (iv : Int)) HD0.out (by rw [← hiv]; rfl)
 have HIV := Lib.hid hiv
 have HS := Lib.hid h
 have HK := Lib.hid hk
 clear hiv h hk
 unfold sv
 by_cases hne : l = []
 · subst hne
   have HR := Lib.hid (show addrR iv [] r = slotB iv by unfold addrR; rw [if_pos rfl])
   have HSL := Lib.hid (fun W => rslot_any' iv _ rfl W (by omega))
   simp only [List.length_nil]
   go_enter Tryz.func79, Tryz.ntmps79
   go_wp2_with fail
   refine (HSL.out _).mono ?_
   rintro e w1 ⟨rfl, hb1⟩
   go_wp2_with fail
   go_ret
   exact ⟨by rw [HR.out]; rfl, HB0.out.trans (hb1.mono HB0.out.size)⟩
 · have hpos : 0 < l.length := List.length_pos_iff.2 hne
   obtain ⟨b, off, rfl, hbb, hcc⟩ := HS.out.cells hne
   have HCC := Lib.hid hcc
   have hlast := (hcc (l.length - 1) (by omega)).1
   have HPG := Lib.hid (pageR_last (iv := iv) hne)
   have hkl := HK.out l[l.length - 1] (List.getElem_mem _)
   have hneI : ((l.length : Int) == 0) = false := by simp; omega
   have HAD := Lib.hid (show addrR iv l r = if fitsP iv (onR iv (pageR iv l) l ++ [r]) = true then slotB (pageR iv l * iv + ((onR iv (pageR iv l) l).map List.length).sum) else slotB ((pageR iv l + 1) * iv) by unfold addrR; rw [if_neg hne])
   generalize l[l.length - 1] = q at hlast HPG hkl
   obtain ⟨kq, rq⟩ := q
   simp only at hlast HPG hkl
   obtain ⟨hkl1, _, hkl3⟩ := hkl
   have hl0 : (w.alloc (.cells (dsv z org fmt len blk) 45)).cell? ⟨b, off + (l.length - 1) * 2, none⟩ = some (.string ⟨kq.toArray⟩) := ((HB0.out.mono hB).cell (p := ⟨b, off + (l.length - 1) * 2, none⟩) hbb).trans hlast
   have q1 : IntKind.i64.wrap ((l.length : Int) - 1) = ((l.length - 1 : Nat) : Int) := by rw [IntWalk.i64_in _ (by omega)]; omega
   have q2 : (l.length : Int) - 1 = ((l.length - 1 : Nat) : Int) := by omega
   have hj2 : l.length - 1 < l.length := by omega
   have HN := Lib.hid (fun W => rnum_any kq W (by omega))
   clear hcc hlast hne
   go_enter Tryz.func79, Tryz.ntmps79
   go_wp2_with fail
   generalize w.alloc (.cells (dsv z org fmt len blk) 45) = w0 at HB0 HD0 d70 hl0 ⊢
   refine (HN.out w0).mono ?_
   rintro e w1 ⟨hR, rfl⟩
   unfold NumRet at hR
   subst hR
   clear hl0 q1 q2 HN hneI
   generalize numN kq = n0 at HPG hkl3 ⊢
   generalize (numB kq).isSome = ok0
   have hpd : (n0 : Int).tdiv (iv : Int) = ((pageR iv l : Nat) : Int) := by rw [Int.tdiv_eq_ediv_of_nonneg (by omega), HPG.out]; simp
   have hpgl : pageR iv l ≤ 1000000000 := by rw [HPG.out]; exact Nat.le_trans (Nat.div_le_self _ _) hkl3
   have HSUM := Lib.hid (fun pg => onR_sum iv pg l hl (fun p hp => (HK.out p hp).2.1))
   have HONL := Lib.hid (fun pg => onR_len iv pg l)
   have HONM := Lib.hid (fun pg s (hs : s ∈ onR iv pg l) => show s.length ≤ 100000 by obtain ⟨p, hp, rfl⟩ := onR_mem hs; exact (HK.out p hp).2.1)
   clear HPG
   generalize pageR iv l = pg at HAD hpd hpgl
   go_wp2_with fail
   clear hpd hkl3
   have hown : (w0.alloc (.cells #[] 9)).ownsRow w0.heap.size 9 1 (.slice (some ⟨w0.heap.size, 0, none⟩) 0 0) 0 [] := lit0 _ rfl (Nat.le_refl _)
   go_loopw [10, 11, 12, 13, 14] (fun v u k _ _ wr => ∃ j : Nat, j ≤ l.length ∧ k = .int .i64 j ∧ u = .int .i64 ((((onR iv pg (l.take j)).map List.length).sum : Nat) : Int) ∧ wr.ownsRow w0.heap.size 9 1 v (onR iv pg (l.take j)).length ((onR iv pg (l.take j)).map sv) ∧ Below w0.heap.size w0 wr) (fun _ _ k _ _ _ => l.length - (intOf k).toNat)
   case atStart => exact ⟨0, by omega, rfl, rfl, hown, box_below w0 _ _⟩
   case round =>
    clear hown
    obtain ⟨j, hj, rfl, rfl, ho, hb⟩ := hrel
    obtain ⟨oa, oc, rfl, _⟩ := news_own ho
    have HO := Lib.hid ho
    have HB1 := Lib.hid hb
    have HB := Lib.hid (HB0.out.trans (hb.mono HB0.out.size))
    have HDr := Lib.hid (heap_below hb (lt_of_block HD0.out) HD0.out)
    clear ho hb
    by_cases hlt : j < l.length
    · have hcj := HCC.out j hlt
      have hr1 : wr.cell? ⟨b, off + j * 2, none⟩ = some (.string ⟨l[j].1.toArray⟩) := ((HB.out.mono hB).cell (p := ⟨b, off + j * 2, none⟩) hbb).trans hcj.1
      have hr2 : wr.cell? ⟨b, off + j * 2 + 1, none⟩ = some (.string ⟨l[j].2.toArray⟩) := ((HB.out.mono hB).cell (p := ⟨b, off + j * 2 + 1, none⟩) hbb).trans hcj.2
      have hkj := HK.out l[j] (List.getElem_mem hlt)
      have HT := Lib.hid (onR_take iv pg l j hlt)
      have HNJ := Lib.hid (fun W => rnum_any l[j].1 W (by omega))
      generalize l[j] = p at hr1 hr2 hkj HT HNJ
      clear hcj
      obtain ⟨k, s⟩ := p
      simp only at hr1 hr2 hkj HT HNJ
      obtain ⟨_, hks, hkn⟩ := hkj
      have d7r := cell_at (i := 7) (v := .int .i64 (iv : Int)) HDr.out (by rw [← HIV.out]; rfl)
      have HLE := Lib.hid (show (onR iv pg (l.take j)).length ≤ 5000 by have := onR_len iv pg (l.take j); rw [List.length_take] at this; omega)
      have HSU := Lib.hid (show ((onR iv pg (l.take j)).map List.length).sum ≤ 500000000 from onR_sum iv pg (l.take j) (by rw [List.length_take]; omega) (fun p hp => (HK.out p (List.mem_of_mem_take hp)).2.1))
      generalize onR iv pg (l.take j) = O at HO HT HLE HSU ⊢
      have hle := HLE.out
      have hsu := HSU.out
      obtain ⟨S, hS⟩ : ∃ S, S = (O.map List.length).sum := ⟨_, rfl⟩
      rw [← hS] at hsu ⊢
      have HSS := Lib.hid hS
      clear hS HSU HLE
      unfold sv at HNJ
      go_wp2_with fail
      refine (HNJ.out wr).mono ?_
      rintro e w2 ⟨hR, rfl⟩
      unfold NumRet at hR
      subst hR
      generalize numN k = n at HT hkn ⊢
      generalize (numB k).isSome = ok
      have hd : (n : Int).tdiv (iv : Int) = ((n / iv : Nat) : Int) := by rw [Int.tdiv_eq_ediv_of_nonneg (by omega)]; simp
      have hnv : n / iv ≤ 1000000000 := Nat.le_trans (Nat.div_le_self _ _) hkn
      by_cases hpe : n / iv = pg
      · have heq : (((n / iv : Nat) : Int) == (pg : Int)) = true := by rw [hpe]; simp
        have HT2 := Lib.hid (show onR iv pg (l.take (j + 1)) = O ++ [s] by rw [HT.out, if_pos hpe])
        have heqN : (n / iv == pg) = true := by simpa using hpe
        clear hpe
        generalize n / iv = nv at hd heq heqN hnv
        go_wp2_with (refine wpList_append_own _ rfl _ _ 69 rfl w0.heap.size 9 i0 (.string ByteArray.empty) 1 16 Tryz.underlying69 hi0 hz0 hz1 hz2 rfl (by decide) _ _ _ rfl (HO.out.alloc _) _ 1 1 [.string ⟨s.toArray⟩] rfl rfl ?b1 ?b2 ?b3 ?b4 ?b5 ?_)
        case b1 => exact news_at (cs := #[.string ⟨s.toArray⟩]) (heap_alloc_new _ _)
        case b2 => simp [Value.oneCell']
        case b3 => simp only [maxLen]; omega
        case b4 => omega
        case b5 => have := HB1.out.size; simp; omega
        intro v3 w3 ho3 hg3 _
        have hb3 := (HB1.out.alloc HB1.out.size (.cells #[.string ⟨s.toArray⟩] 9)).grown hg3 (HB1.out.alloc HB1.out.size _).size (fun k hk => row_own HO.out hk)
        have HO3 := Lib.hid (show w3.ownsRow w0.heap.size 9 1 v3 (O ++ [s]).length ((O ++ [s]).map sv) by simpa [sv] using ho3)
        have HB3 := Lib.hid hb3
        have hr23 : w3.cell? ⟨b, off + j * 2 + 1, none⟩ = some (.string ⟨s.toArray⟩) := by
         have e1 := ((HB0.out.trans (hb3.mono HB0.out.size)).mono hB).cell (p := ⟨b, off + j * 2 + 1, none⟩) hbb
         have e2 := ((HB0.out.trans (HB1.out.mono HB0.out.size)).mono hB).cell (p := ⟨b, off + j * 2 + 1, none⟩) hbb
         exact e1.trans (e2.symm.trans hr2)
        clear ho3 hg3 hb3 hr1 hr2 d7r
        go_wp2_with fail
        go_roundw
        case rel => exact ⟨j + 1, by omega, by go_num, by rw [HT2.out, List.map_append, List.sum_append, ← HSS.out]; simp, by rw [HT2.out]; exact HO3.out, HB3.out⟩
        case measure => simp [intOf]; omega
      · have heq : (((n / iv : Nat) : Int) == (pg : Int)) = false := by simp; omega
        have HT2 := Lib.hid (show onR iv pg (l.take (j + 1)) = O by rw [HT.out, if_neg hpe, List.append_nil])
        have heqN : (n / iv == pg) = false := by simpa using hpe
        have hneN : ¬ n / iv = pg := hpe
        clear hpe
        generalize n / iv = nv at hd heq heqN hneN hnv
        go_wp2_with fail
        go_roundw
        case rel => exact ⟨j + 1, by omega, by go_num, by rw [HT2.out, ← HSS.out], by rw [HT2.out]; exact HO.out, HB1.out⟩
        case measure => simp [intOf]; omega
    · obtain rfl : j = l.length := by omega
      have htk : l.take l.length = l := List.take_length
      rw [htk] at HO ⊢
      clear htk
      have hle := HONL.out pg
      have hsu := HSUM.out pg
      have HOM := Lib.hid (HONM.out pg)
      generalize onR iv pg l = O at HO HAD hle hsu HOM ⊢
      obtain ⟨S, hS⟩ : ∃ S, S = (O.map List.length).sum := ⟨_, rfl⟩
      rw [← hS] at hsu HAD ⊢
      clear hS HSUM HONL HONM
      have hdr : wr.heap[w.heap.size]? = some (.cells (dsv z org fmt len blk) 45 (0, 0)) := HDr.out
      have d7r : wr.drew.cell? ⟨w.heap.size, 7, none⟩ = some (.int .i64 (iv : Int)) := cell_at (w := wr.drew) (i := 7) hdr (by rw [← HIV.out]; rfl)
      have d7a : (wr.alloc (.cells #[.string ⟨r.toArray⟩] 9)).drew.cell? ⟨w.heap.size, 7, none⟩ = some (.int .i64 (iv : Int)) := cell_at (w := (wr.alloc (.cells #[.string ⟨r.toArray⟩] 9)).drew) (i := 7) ((halloc _ _ (lt_of_block hdr)).trans hdr) (by rw [← HIV.out]; rfl)
      clear hdr
      go_wp2_with fail
      go_region_held3 (fun w' => w'.cell? ⟨w.heap.size, 7, none⟩ = some (.int .i64 (iv : Int))) (first | (with_reducible exact d78) | (with_reducible exact d77) | (with_reducible exact d7a) | exact d7r | fail)
       ((first
         | (go_at_call 134
            (with_reducible refine (HFT.out).mono ?_)
            rintro e w8 ⟨rfl, hb8⟩
            have HB8 := Lib.hid (HB7.out.trans (hb8.mono HB7.out.size))
            have HD8 := Lib.hid (heap_below HB8.out (lt_of_block HD0.out) HD0.out)
            have d78 := cell_at (i := 7) (v := .int .i64 (iv : Int)) HD8.out (by rw [← HIV.out]; rfl))
         | (refine step_append_row w0.heap.size 9 i0 (.string ByteArray.empty) 1 16 hi0 hz0 hz1 hz2 rfl (by decide) (by decide) rfl (.tmp 76) (.tmp 78) 69 rfl Tryz.underlying69 _ rfl _ _ (own_below HO.out bel_a1) (some ⟨wr.heap.size, 0, none⟩) 1 1 rfl [.string ⟨r.toArray⟩] rfl (Or.inl ⟨_, rfl, news_at (cs := #[.string ⟨r.toArray⟩]) (heap_alloc_new wr _)⟩) (by simp [Value.oneCell']) (by omega) (by have := HB1.out.size; simp; omega) ?_
            intro v7 w7 ho7 hg7
            have hb7a := HB1.out.trans ((bel_a1 (w := wr) (o := .cells #[.string ⟨r.toArray⟩] 9)).mono HB1.out.size)
            have HB7 := Lib.hid (hb7a.grown hg7 hb7a.size (fun k hk => row_own (own_below HO.out (bel_a1 (w := wr) (o := .cells #[.string ⟨r.toArray⟩] 9))) hk))
            obtain ⟨L, hL⟩ : ∃ L, L = O ++ [r] := ⟨_, rfl⟩
            have ho7' : w7.ownsRow w0.heap.size 9 1 v7 L.length (L.map sv) := by rw [hL]; simpa [sv] using ho7
            obtain ⟨A7, C7, rfl, hs7, hc7, hc7b⟩ := row_all' ho7'
            have HFT := Lib.hid (rfits_any (iv : Int) w7 w7.heap.size A7 C7 L hs7 (Nat.le_refl _) (by rw [hL]; simp; omega) (fun s hs => by rw [hL] at hs; rcases List.mem_append.1 hs with hs | hs; exact HOM.out s hs; obtain rfl := List.mem_singleton.1 hs; exact hr))
            have HLL := Lib.hid hL
            have d77 := cell_at (i := 7) (v := .int .i64 (iv : Int)) (heap_below HB7.out (lt_of_block HD0.out) HD0.out) (by rw [← HIV.out]; rfl)
            clear hL ho7 ho7' hg7 hs7 hb7a)
         | fail))
      have hmn : pg * iv ≤ 512000000000 := Nat.le_trans (Nat.mul_le_mul hpgl hv2) (by omega)
      have hmc : ((pg * iv : Nat) : Int) = (pg : Int) * (iv : Int) := Int.natCast_mul _ _
      have hmc2 : (((pg + 1) * iv : Nat) : Int) = ((pg : Int) + 1) * (iv : Int) := by simp
      have hme : (pg + 1) * iv = pg * iv + iv := by rw [Nat.add_mul]; omega
      have hm0 : (0 : Int) ≤ (pg : Int) * (iv : Int) := by omega
      have hm1 : (pg : Int) * (iv : Int) ≤ 512000000000 := by omega
      have hm2 : (0 : Int) ≤ ((pg : Int) + 1) * (iv : Int) := by omega
      have hm3 : ((pg : Int) + 1) * (iv : Int) ≤ 512000000512 := by omega
      have s1 : IntKind.i64.wrap ((pg : Int) * (iv : Int)) = (pg : Int) * (iv : Int) := IntWalk.i64_in _ (by omega)
      have s2 : IntKind.i64.wrap (((pg : Int) + 1) * (iv : Int)) = ((pg : Int) + 1) * (iv : Int) := IntWalk.i64_in _ (by omega)
      have HS1 := Lib.hid (fun W => rslot_any' (pg * iv + S) ((pg : Int) * (iv : Int) + (S : Int)) (by rw [Int.natCast_add, hmc]) W (by omega))
      have HS2 := Lib.hid (fun W => rslot_any' ((pg + 1) * iv) (((pg : Int) + 1) * (iv : Int)) hmc2.symm W (by omega))
      rw [← HLL.out] at HAD
      have HBF := Lib.hid (HB0.out.trans (HB8.out.mono HB0.out.size))
      clear hmc hmc2 hme d77 d7r d7a hb8
      cases hf : fitsP (iv : Int) L with
      | true =>
        rw [hf] at HAD
        have HAD2 := Lib.hid (HAD.out.trans (if_pos rfl))
        clear hf
        go_wp2_with fail
        refine (HS1.out _).mono ?_
        rintro e w9 ⟨rfl, hb9⟩
        go_wp2_with fail
        go_ret
        exact ⟨by rw [HAD2.out]; rfl, HBF.out.trans (hb9.mono HBF.out.size)⟩
      | false =>
        rw [hf] at HAD
        have HAD2 := Lib.hid (HAD.out.trans (if_neg (by simp)))
        clear hf
        go_wp2_with fail
        refine (HS2.out _).mono ?_
        rintro e w9 ⟨rfl, hb9⟩
        go_wp2_with fail
        go_ret
        exact ⟨by rw [HAD2.out]; rfl, HBF.out.trans (hb9.mono HBF.out.size)⟩
end
end

end Go.Proofs.YtcefkngblddpoaaGreatDoor

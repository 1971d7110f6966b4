/-
  Walks: records with lengths of their own, packed by the reference. Conditions: valid sizes, at most 40000 records of at most the length.
-/
import Derived.Test.YtckpepfkfjdnhaaGreatDoorPE
import Derived.Test.YtckpepfkfjdnhaaGreatDoorPI
namespace Go.Proofs.YtckpepfkfjdnhaaGreatDoor
open Go.RowKit Go.Sort
attribute [local go_sem] ByteArray.mk_append_mk strOfNums_size ext_drop ext_take

/-- The blocks of a state of the reference's loop. -/
def rvFin (s : List By × List By) : List By := if 0 < s.2.length then s.1 ++ [blockOf s.2] else s.1
theorem varStepB_new (block : Nat) (out last : List By) (r : By) (h : block < (blockOf (last ++ [r])).length) : varStepB block (out, last) r = (out ++ [blockOf last], [r]) := by
 unfold varStepB; simp only; rw [if_pos h]
theorem varStepB_old (block : Nat) (out last : List By) (r : By) (h : ¬ block < (blockOf (last ++ [r])).length) : varStepB block (out, last) r = (out, last ++ [r]) := by
 unfold varStepB; simp only; rw [if_neg h]
theorem blockOf_length (l : List By) : (blockOf l).length = 4 + (formsF l).length := by unfold blockOf formsF; rw [whole_length]
theorem formsF_one (r : By) : (formsF [r]).length = 4 + r.length := by simp [formsF, form_length]

/-- What the reference's loop holds. -/
structure RvSt (w : World) (blk : Nat) (l V : List By) (W : World) (j : Nat) (out last : List By) (v u : Value) : Prop where
 bel : Below w.heap.size w W
 own : W.ownsRow w.heap.size 9 1 v out.length (out.map sv)
 lst : W.ownsRow w.heap.size 9 1 u last.length (last.map sv)
 tot : V = rvFin ((l.drop j).foldl (varStepB blk) (out, last))
 room : 4 + (formsF last).length ≤ blk
 few : out.length ≤ j
 fewl : last.length ≤ j

set_option maxRecDepth 100000 in
set_option maxHeartbeats 8000000 in
theorem rvpack_any (w : World) (B : Nat) (a : Option Addr) (cap : Nat) (l : List By) (len blk : Nat) (h : Strs w B a l) (hB : B ≤ w.heap.size) (hl : l.length ≤ 40000) (hv : varV len blk = true) :
   Calls Tryz.prog 138 #[.int .i64 len, .int .i64 blk, .slice a l.length cap] w fun e w' => PackPost w (l.all fun r => decide (r.length ≤ len)) (varB blk l) e w' := by
 have hbd : 1 ≤ (len : Int) ∧ (len : Int) ≤ 1000 ∧ (len : Int) + 8 ≤ blk ∧ (blk : Int) ≤ 1024 := by simp [varV] at hv; omega
 obtain ⟨d1, d2, d3, d4⟩ := hbd
 have HV := Lib.hid hv
 clear hv
 obtain ⟨i0, hi0, hz0, hz1, hz2⟩ := info_parts info9
 have hT0 : varB blk l = rvFin ((l.drop 0).foldl (varStepB blk) ([], [])) := rfl
 generalize varB blk l = V at hT0 ⊢
 have HT0 := Lib.hid hT0
 clear hT0
 go_enter Tryz.func138, Tryz.ntmps138
 go_wp2_with fail
 refine (rvar_valid _ _ _).mono ?_
 rintro e w1 ⟨rfl, rfl⟩
 rw [HV.out]
 go_wp2_with fail
 have hbz := ((Below.refl w.heap.size w).alloc (Nat.le_refl _) (.cells #[] 9)).alloc (by simp) (.cells #[] 9)
 have HS := Lib.hid (show RvSt w blk l V ((w.alloc (.cells #[] 9)).alloc (.cells #[] 9)) 0 [] [] (.slice (some ⟨w.heap.size, 0, none⟩) 0 0) (.slice (some ⟨w.heap.size + 1, 0, none⟩) 0 0) from
   ⟨hbz, (lit0 9 rfl (Nat.le_refl _)).alloc _, lit0 9 (by simp) (by simp), HT0.out, by simp [formsF]; omega, Nat.le_refl _, Nat.le_refl _⟩)
 clear HT0 hbz
 go_loopw [8, 9, 10, 11] (fun o u k _ wr => ∃ j out last, j ≤ l.length ∧ k = .int .i64 (j : Nat) ∧ RvSt w blk l V wr j out last o u ∧ AllTo (fun r => decide (r.length ≤ len)) l j) (fun _ _ k _ _ => l.length - (intOf k).toNat)
 case atStart => exact ⟨0, [], [], by omega, rfl, HS.out, AllTo.zero _ _⟩
 case round =>
   clear HS
   obtain ⟨j, out, last, hj, rfl, hS, hall⟩ := hrel
   have HA := Lib.hid hall
   clear hall
   have hfew := hS.few
   have hol : out.length ≤ 40000 := by omega
   have hfl := hS.fewl
   have hll : last.length ≤ 40000 := by omega
   have hroom := hS.room
   have HO := Lib.hid hS.own
   have HB := Lib.hid hS.bel
   have HL := Lib.hid hS.lst
   obtain ⟨la, lc, rfl, hN, hLS⟩ := newsAt_of_row hS.lst
   by_cases hlt : j < l.length
   · obtain ⟨b, off, rfl, hbb, hc⟩ := (h.below (hS.bel.mono hB)).get hlt
     have hbw : b < wr.heap.size := by have := hS.bel.size; omega
     by_cases hkk : l[j].length ≤ len
     rotate_left
     · have HF := Lib.hid (all_bad (p := fun r => decide (r.length ≤ len)) hlt (decide_eq_false hkk))
       generalize l[j] = r at hc hkk
       have hle : ¬ (r.length : Int) ≤ (len : Int) := by omega
       have hle2 : (len : Int) < (r.length : Int) := by omega
       clear hkk
       go_wp2_with fail
       go_ret2
       exact ⟨fun h => (by rw [HF.out] at h; cases h), fun _ => rfl, HB.out⟩
     have HA2 := Lib.hid (HA.out.succ hlt (decide_eq_true hkk))
     have htot := hS.tot
     rw [List.drop_eq_getElem_cons hlt, List.foldl_cons] at htot
     clear hS
     generalize l[j] = r at hc hkk htot
     have hle : (r.length : Int) ≤ (len : Int) := by omega
     have HT := Lib.hid htot
     have HN := Lib.hid hN
     have HLS := Lib.hid hLS
     clear htot hN hLS
     have pcd : wr.drew.cell? ⟨b, off + j, none⟩ = some (.string ⟨r.toArray⟩) := hc
     go_wp2_with fail
     go_region_held3 (fun w' => w'.cell? ⟨b, off + j, none⟩ = some (.string ⟨r.toArray⟩)) (first | assumption | exact cell_alloc1 (by assumption))
       ((first
         | (refine step_append_row wr.heap.size 9 i0 (.string ByteArray.empty) 1 16 hi0 hz0 hz1 hz2 rfl (by decide) (by decide) rfl (.tmp 31) (.tmp 32) 83 rfl Tryz.underlying83 _ rfl 0 [] ?own la last.length lc rfl (last.map sv) ?len ?src ?one ?small ?base ?_
            case own => exact (lit0 (W := wr) 9 rfl (Nat.le_refl _)).drew
            case len => simp
            case src => exact (HN.out.below bel_a1).out
            case one => exact one_sv _
            case small => omega
            case base => simp
            intro v1 w1' ho1 hg1
            have hb1 : Below wr.heap.size wr w1' := (bel_a1 (w := wr)).grown hg1 (by simp) (fun k hk => by have : wr.heap.size = k := Option.some.inj hk; omega)
            have hs1 := hb1.size
            have pc1 := (hb1.cell (p := ⟨b, off + j, none⟩) hbw).trans hc
            clear hg1)
         | (refine step_append_row wr.heap.size 9 i0 (.string ByteArray.empty) 1 16 hi0 hz0 hz1 hz2 rfl (by decide) (by decide) rfl (.tmp 31) (.tmp 32) 83 rfl Tryz.underlying83 _ rfl 0 [] ?own la last.length lc rfl (last.map sv) ?len ?src ?one ?small ?base ?_
            case own => exact ((lit0 (W := wr) 9 rfl (Nat.le_refl _)).alloc _).drew
            case len => simp
            case src => exact (HN.out.below bel_a2).out
            case one => exact one_sv _
            case small => omega
            case base => simp; omega
            intro v1 w1' ho1 hg1
            have hb1 : Below wr.heap.size wr w1' := (bel_a2 (w := wr)).grown hg1 (by simp; omega) (fun k hk => by have : wr.heap.size = k := Option.some.inj hk; omega)
            have hx1 : w1'.heap[wr.heap.size + 1]? = some (.cells #[.string ⟨r.toArray⟩] 9) := (hg1.block _ (by simp) (fun e => by have : wr.heap.size + 1 = wr.heap.size := Option.some.inj e; omega)).trans (heap_alloc2_new wr _ _)
            have hs1 := hb1.size
            have pc1 := (hb1.cell (p := ⟨b, off + j, none⟩) hbw).trans hc
            clear hg1)
         | (refine step_append_row wr.heap.size 9 i0 (.string ByteArray.empty) 1 16 hi0 hz0 hz1 hz2 rfl (by decide) (by decide) rfl (.tmp 31) (.tmp 32) 83 rfl Tryz.underlying83 _ rfl 0 [] ?own la last.length lc rfl (last.map sv) ?len ?src ?one ?small ?base ?_
            case own => exact (lit0 (W := wr.alloc (.cells #[.string ⟨r.toArray⟩] 9)) 9 (by simp) (by simp)).drew
            case len => simp
            case src => exact (HN.out.below bel_a2).out
            case one => exact one_sv _
            case small => omega
            case base => simp; omega
            intro v1 w1' ho1 hg1
            have hb1 : Below wr.heap.size wr w1' := (bel_a2 (w := wr)).grown hg1 (by simp; omega) (fun k hk => by have : wr.heap.size + 1 = k := Option.some.inj hk; omega)
            have hx1 : w1'.heap[wr.heap.size]? = some (.cells #[.string ⟨r.toArray⟩] 9) := (hg1.block _ (by simp; omega) (fun e => by have : wr.heap.size = wr.heap.size + 1 := Option.some.inj e; omega)).trans (heap_alloc2_old wr _ _)
            have hs1 := hb1.size
            have pc1 := (hb1.cell (p := ⟨b, off + j, none⟩) hbw).trans hc
            clear hg1)
         | (refine step_append_row wr.heap.size 9 i0 (.string ByteArray.empty) 1 16 hi0 hz0 hz1 hz2 rfl (by decide) (by decide) rfl (.tmp 33) (.tmp 38) 83 rfl Tryz.underlying83 _ rfl _ _ ho1 _ 1 1 rfl [.string ⟨r.toArray⟩] rfl ?src ?one ?small ?base ?_
            case src => exact Or.inl ⟨_, rfl, news_at (cs := #[.string ⟨r.toArray⟩]) hx1⟩
            case one => simp [Value.oneCell']
            case small => omega
            case base => exact hs1
            intro v2 w2' ho2 hg2
            have hb2 : Below wr.heap.size wr w2' := hb1.grown hg2 hs1 (fun k hk => row_own ho1 hk)
            have hs2 := hb2.size
            have pc2 := (hb2.cell (p := ⟨b, off + j, none⟩) hbw).trans hc
            clear hg2)
         | (refine step_append_row wr.heap.size 9 i0 (.string ByteArray.empty) 1 16 hi0 hz0 hz1 hz2 rfl (by decide) (by decide) rfl (.tmp 33) (.tmp 38) 83 rfl Tryz.underlying83 _ rfl _ _ (ho1.alloc _) _ 1 1 rfl [.string ⟨r.toArray⟩] rfl ?src ?one ?small ?base ?_
            case src => exact Or.inl ⟨_, rfl, news_at (cs := #[.string ⟨r.toArray⟩]) (heap_alloc_new _ _)⟩
            case one => simp [Value.oneCell']
            case small => omega
            case base => simp; omega
            intro v2 w2' ho2 hg2
            have hb2 : Below wr.heap.size wr w2' := (hb1.alloc hs1 _).grown hg2 (by simp; omega) (fun k hk => row_own ho1 hk)
            have hs2 := hb2.size
            have pc2 := (hb2.cell (p := ⟨b, off + j, none⟩) hbw).trans hc
            clear hg2)))
     all_goals
       obtain ⟨nx, hnx⟩ : ∃ nx, last ++ [r] = nx := ⟨_, rfl⟩
       have hnl : nx.length = last.length + 1 := by rw [← hnx]; simp
       have hnl2 : nx.length ≤ j + 1 := by omega
       have hfx : (formsF nx).length = (formsF last).length + 4 + r.length := by rw [← hnx, formsF_snoc]; simp [word_length]; omega
       have hbx := blockOf_length nx
       have hO2 : w2'.ownsRow wr.heap.size 9 1 v2 nx.length (nx.map sv) := by rw [← hnx]; simpa [sv] using ho2
       obtain ⟨na, nc, rfl, _, hLS2⟩ := newsAt_of_row hO2
       have hrb := fun W hW => rblock_any W w2'.heap.size na nc nx hW
       have hnew : blk < (blockOf nx).length → varStepB blk (out, last) r = (out ++ [blockOf last], [r]) := fun h => varStepB_new _ _ _ _ (by rw [hnx]; exact h)
       have hold : ¬ blk < (blockOf nx).length → varStepB blk (out, last) r = (out, nx) := fun h => by rw [varStepB_old _ _ _ _ (by rw [hnx]; exact h), hnx]
       have hbl1 : (blockOf nx).length ≤ 5000 := by omega
       generalize blockOf nx = bn at hbx hrb hnew hold hbl1
       have HRB := Lib.hid (hrb w2' hLS2 (Nat.le_refl _) (by omega) (by omega))
       have HNL := Lib.hid hnl
       have HFX := Lib.hid hfx
       have HBX := Lib.hid hbx
       have HO2 := Lib.hid hO2
       have HB2 := Lib.hid hb2
       clear hnx hnl hfx hbx hO2 ho2 hrb hLS2 hb1 hs1 pc1 hb2 hs2 pc2 pcd
       by_cases hgt : blk < bn.length
       · rw [hnew hgt] at HT
         clear hnew hold
         have hrl := fun W hW => rblock_any W wr.heap.size la lc last hW
         have hbl2 := blockOf_length last
         generalize blockOf last = bl at hrl hbl2 HT
         have HRL := Lib.hid hrl
         have HBL2 := Lib.hid hbl2
         clear hrl hbl2
         have hgI : (blk : Int) < (bn.length : Int) := by omega
         clear hgt
         go_wp2_with fail
         refine HRB.out.mono ?_
         rintro e w3 ⟨rfl, hb3⟩
         have HB3 := Lib.hid (HB2.out.trans (hb3.mono HB2.out.size))
         clear hb3
         go_wp2_with fail
         refine (HRL.out _ (HLS.out.below HB3.out) HB3.out.size (by omega) (by omega)).mono ?_
         rintro e w4 ⟨rfl, hb4⟩
         have HB4 := Lib.hid (HB3.out.trans (hb4.mono HB3.out.size))
         have hown4 := own_below HO.out HB4.out
         have HBw := Lib.hid (HB.out.trans (HB4.out.mono HB.out.size))
         clear hb4
         go_wp2_with (at_builtin; go_must (refine wpList_append_own _ rfl _ _ 83 rfl w.heap.size 9 i0 (.string ByteArray.empty) 1 16 Tryz.underlying83 hi0 hz0 hz1 hz2 rfl (by decide) _ _ _ rfl (hown4.alloc _) _ 1 1 [.string ⟨bl.toArray⟩] rfl rfl ?e11 ?e21 ?e31 ?e41 ?e51 ?_))
         case e11 => exact news_at (cs := #[.string ⟨bl.toArray⟩]) (heap_alloc_new _ _)
         case e21 => simp [Value.oneCell']
         case e31 => unfold maxLen; (try simp); omega
         case e41 => (try simp); omega
         case e51 => have := HBw.out.size; simp at this ⊢; omega
         intro v6 w6 hown6 hg6 _
         have hbA := HBw.out.alloc HBw.out.size (.cells #[.string ⟨bl.toArray⟩] 9)
         have hb6 := hbA.grown hg6 hbA.size (fun k hk => row_own hown4 hk)
         have hown7 : w6.ownsRow w.heap.size 9 1 v6 (out ++ [bl]).length ((out ++ [bl]).map sv) := by simpa [sv] using hown6
         have hc6 : w6.cell? ⟨b, off + j, none⟩ = some (.string ⟨r.toArray⟩) := (hb6.cell (p := ⟨b, off + j, none⟩) (Nat.lt_of_lt_of_le hbb hB)).trans ((HB.out.cell (p := ⟨b, off + j, none⟩) (Nat.lt_of_lt_of_le hbb hB)).symm.trans hc)
         have HZ := Lib.hid (show RvSt w blk l V (w6.alloc (.cells #[.string ⟨r.toArray⟩] 9)) (j + 1) (out ++ [bl]) [r] v6 (.slice (some ⟨w6.heap.size, 0, none⟩) 1 1) from
           ⟨hb6.alloc hb6.size _, hown7.alloc _, World.ownsRow_lit (base := w.heap.size) (e := 9) (size := 1) w6 #[.string ⟨r.toArray⟩] 1 hb6.size (by simp [maxLen]) rfl, HT.out, by rw [formsF_one]; omega, by simp; omega, by simp⟩)
         clear hown6 hown7 hg6 hbA hb6 hown4
         go_wp2_with fail
         go_roundw
         case rel => exact ⟨j + 1, _, _, by omega, by go_num, HZ.out, HA2.out⟩
         case measure => simp [intOf]; omega
       · rw [hold hgt] at HT
         clear hnew hold
         have hgI : ¬ (blk : Int) < (bn.length : Int) := by omega
         have HGT := Lib.hid hgt
         clear hgt
         go_wp2_with fail
         refine HRB.out.mono ?_
         rintro e w3 ⟨rfl, hb3⟩
         have HZ := Lib.hid (show RvSt w blk l V w3 (j + 1) out nx _ _ from
           ⟨HB.out.trans ((HB2.out.trans (hb3.mono HB2.out.size)).mono HB.out.size), own_below HO.out (HB2.out.trans (hb3.mono HB2.out.size)), own_below (own_mono HO2.out HB.out.size) hb3, HT.out, by have := HBX.out; have := HGT.out; omega, by omega, hnl2⟩)
         clear hb3
         go_wp2_with fail
         go_roundw
         case rel => exact ⟨j + 1, _, _, by omega, by go_num, HZ.out, HA2.out⟩
         case measure => simp [intOf]; omega
   · have htot := hS.tot
     rw [List.drop_eq_nil_of_le (by omega), List.foldl_nil] at htot
     clear hS
     by_cases hs : last = []
     · subst hs
       have hV : V = out := by simpa [rvFin] using htot
       have HT := Lib.hid hV
       clear htot hV
       go_wp2_with fail
       go_ret2
       rw [HT.out]
       exact ⟨fun _ => ⟨_, rfl, HO.out⟩, fun h => (by rw [HA.out.done (by omega)] at h; cases h), HB.out⟩
     · have hpos : 0 < last.length := List.length_pos_iff.2 hs
       have hV : V = out ++ [blockOf last] := by rw [htot]; unfold rvFin; rw [if_pos hpos]
       have hrl := fun W hW => rblock_any W wr.heap.size la lc last hW
       have hbl2 := blockOf_length last
       generalize blockOf last = bl at hrl hbl2 hV
       have HRL := Lib.hid hrl
       have HT := Lib.hid hV
       have HLS := Lib.hid hLS
       clear hrl hbl2 hV htot hN hLS
       go_wp2_with fail
       refine (HRL.out wr HLS.out (Nat.le_refl _) (by omega) (by omega)).mono ?_
       rintro e w4 ⟨rfl, hb4⟩
       have hown4 := own_below HO.out hb4
       have HBw := Lib.hid (HB.out.trans (hb4.mono HB.out.size))
       clear hb4
       go_wp2_with (at_builtin; go_must (refine wpList_append_own _ rfl _ _ 83 rfl w.heap.size 9 i0 (.string ByteArray.empty) 1 16 Tryz.underlying83 hi0 hz0 hz1 hz2 rfl (by decide) _ _ _ rfl (hown4.alloc _) _ 1 1 [.string ⟨bl.toArray⟩] rfl rfl ?e12 ?e22 ?e32 ?e42 ?e52 ?_))
       case e12 => exact news_at (cs := #[.string ⟨bl.toArray⟩]) (heap_alloc_new _ _)
       case e22 => simp [Value.oneCell']
       case e32 => unfold maxLen; (try simp); omega
       case e42 => (try simp); omega
       case e52 => have := HBw.out.size; simp at this ⊢; omega
       intro v6 w6 hown6 hg6 _
       have hbA := HBw.out.alloc HBw.out.size (.cells #[.string ⟨bl.toArray⟩] 9)
       have hb6 := hbA.grown hg6 hbA.size (fun k hk => row_own hown4 hk)
       have hown7 : w6.ownsRow w.heap.size 9 1 v6 (out ++ [bl]).length ((out ++ [bl]).map sv) := by simpa [sv] using hown6
       have HO7 := Lib.hid hown7
       have HB7 := Lib.hid hb6
       clear hown4 hown6 hown7 hg6 hbA hb6
       go_wp2
       go_ret2
       rw [HT.out]
       exact ⟨fun _ => ⟨_, rfl, HO7.out⟩, fun h => (by rw [HA.out.done (by omega)] at h; cases h), HB7.out⟩

end Go.Proofs.YtckpepfkfjdnhaaGreatDoor

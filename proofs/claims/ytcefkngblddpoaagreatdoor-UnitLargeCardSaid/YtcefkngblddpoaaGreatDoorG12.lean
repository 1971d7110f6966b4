/-
  Walks: records with lengths of their own, packed by the reference. Conditions: valid sizes, at most 40000 records of at most the length.
  Walks: records that may be longer than a block, packed by the reference. Conditions: valid sizes, at most 40000 records of at most the length. Walks: the blocks of records of a description, by the reference. Conditions: valid sizes, at most 40000 records.
-/
import Derived.Test.YtcefkngblddpoaaGreatDoorG11
import Derived.Test.YtcefkngblddpoaaGreatDoorG4
import Derived.Test.YtcefkngblddpoaaGreatDoorG3
namespace Go.Proofs.YtcefkngblddpoaaGreatDoor

section
set_option maxRecDepth 100000
set_option maxHeartbeats 8000000
open Go.RowKit Go.Sort
attribute [local go_sem] ByteArray.mk_append_mk strOfNums_size ext_drop ext_take
/-- The blocks of a state of the reference's loop. -/
def rvFin (s : List By × List By) : List By := if 0 < s.2.length then s.1 ++ [blockOf s.2] else s.1
theorem varStepB_new (block : Nat) (out last : List By) (r : By) (h : block < (blockOf (last ++ [r])).length) : varStepB block (out, last) r = (out ++ [blockOf last], [r]) := by
 unfold varStepB; simp only; rw [if_pos h]
theorem varStepB_old (block : Nat) (out last : List By) (r : By) (h : ¬ block < (blockOf (last ++ [r])).length) : varStepB block (out, last) r = (out, last ++ [r]) := by
 unfold varStepB; simp only; rw [if_neg h]
theorem blockOf_length (l : List By) : (blockOf l).length = 4 + (formsF l).length := by unfold blockOf formsF; rw [whole_length]
theorem formsF_one (r : By) : (formsF [r]).length = 4 + r.length := by simp [formsF, form_length]
/-- What the reference's loop holds. -/
structure RvSt (w : World) (blk : Nat) (l V : List By) (W : World) (j : Nat) (out last : List By) (v u : Value) : Prop where
 bel : Below w.heap.size w W
 own : W.ownsRow w.heap.size 9 1 v out.length (out.map sv)
 lst : W.ownsRow w.heap.size 9 1 u last.length (last.map sv)
 tot : V = rvFin ((l.drop j).foldl (varStepB blk) (out, last))
 room : 4 + (formsF last).length ≤ blk
 few : out.length ≤ j
 fewl : last.length ≤ j
theorem rvpack_any (w : World) (B : Nat) (a : Option Addr) (cap : Nat) (l : List By) (len blk : Nat) (h : Strs w B a l) (hB : B ≤ w.heap.size) (hl : l.length ≤ 40000) (hv : varV len blk = true) :
 Calls Tryz.prog 164 #[.int .i64 len, .int .i64 blk, .slice a l.length cap] w fun e w' => PackPost w (l.all fun r => decide (r.length ≤ len)) (varB blk l) e w' := by
 have hbd : 1 ≤ (len : Int) ∧ (len : Int) ≤ 1000 ∧ (len : Int) + 8 ≤ blk ∧ (blk : Int) ≤ 1024 := by simp [varV] at hv; omega
 obtain ⟨d1, d2, d3, d4⟩ := hbd
 have HV := Lib.hid hv
 clear hv
 obtain ⟨i0, hi0, hz0, hz1, hz2⟩ := info_parts info9
 have hT0 : varB blk l = rvFin ((l.drop 0).foldl (varStepB blk) ([], [])) := rfl
 generalize varB blk l = V at hT0 ⊢
 have HT0 := Lib.hid hT0
 clear hT0
 go_enter Tryz.func164, Tryz.ntmps164
 go_wp2_with fail
 refine (rvar_valid _ _ _).mono ?_
 rintro e w1 ⟨rfl, rfl⟩
 rw [HV.out]
 go_wp2_with fail
 have hbz := ((Below.refl w.heap.size w).alloc (Nat.le_refl _) (.cells #[] 9)).alloc (by simp) (.cells #[] 9)
 have HS := Lib.hid (show RvSt w blk l V ((w.alloc (.cells #[] 9)).alloc (.cells #[] 9)) 0 [] [] (.slice (some ⟨w.heap.size, 0, none⟩) 0 0) (.slice (some ⟨w.heap.size + 1, 0, none⟩) 0 0) from
  ⟨hbz, (lit0 9 rfl (Nat.le_refl _)).alloc _, lit0 9 (by simp) (by simp), HT0.out, by simp [formsF]; omega, Nat.le_refl _, Nat.le_refl _⟩)
 clear HT0 hbz
 go_loopw [8, 9, 10, 11] (fun o u k _ wr => ∃ j out last, j ≤ l.length ∧ k = .int .i64 (j : Nat) ∧ RvSt w blk l V wr j out last o u ∧ AllTo (fun r => decide (r.length ≤ len)) l j) (fun _ _ k _ _ => l.length - (intOf k).toNat)
 case atStart => exact ⟨0, [], [], by omega, rfl, HS.out, AllTo.zero _ _⟩
 case round =>
  clear HS
  obtain ⟨j, out, last, hj, rfl, hS, hall⟩ := hrel
  have HA := Lib.hid hall
  clear hall
  have hfew := hS.few
  have hol : out.length ≤ 40000 := by omega
  have hfl := hS.fewl
  have hll : last.length ≤ 40000 := by omega
  have hroom := hS.room
  have HO := Lib.hid hS.own
  have HB := Lib.hid hS.bel
  have HL := Lib.hid hS.lst
  obtain ⟨la, lc, rfl, hN, hLS⟩ := newsAt_of_row hS.lst
  by_cases hlt : j < l.length
  · obtain ⟨b, off, rfl, hbb, hc⟩ := (h.below (hS.bel.mono hB)).get hlt
    have hbw : b < wr.heap.size := by have := hS.bel.size; omega
    by_cases hkk : l[j].length ≤ len
    rotate_left
    · have HF := Lib.hid (all_bad (p := fun r => decide (r.length ≤ len)) hlt (decide_eq_false hkk))
      generalize l[j] = r at hc hkk
      have hle : ¬ (r.length : Int) ≤ (len : Int) := by omega
      have hle2 : (len : Int) < (r.length : Int) := by omega
      clear hkk
      go_wp2_with fail
      go_ret2
      exact ⟨fun h => (by rw [HF.out] at h; cases h), fun _ => rfl, HB.out⟩
    have HA2 := Lib.hid (HA.out.succ hlt (decide_eq_true hkk))
    have htot := hS.tot
    rw [List.drop_eq_getElem_cons hlt, List.foldl_cons] at htot
    clear hS
    generalize l[j] = r at hc hkk htot
    have hle : (r.length : Int) ≤ (len : Int) := by omega
    have HT := Lib.hid htot
    have HN := Lib.hid hN
    have HLS := Lib.hid hLS
    clear htot hN hLS
    have pcd : wr.drew.cell? ⟨b, off + j, none⟩ = some (.string ⟨r.toArray⟩) := hc
    go_wp2_with fail
    go_region_held3 (fun w' => w'.cell? ⟨b, off + j, none⟩ = some (.string ⟨r.toArray⟩)) (first | assumption | exact cell_alloc1 (by assumption))
     ((first
       | (refine step_append_row wr.heap.size 9 i0 (.string ByteArray.empty) 1 16 hi0 hz0 hz1 hz2 rfl (by decide) (by decide) rfl (.tmp 31) (.tmp 32) 69 rfl Tryz.underlying69 _ rfl 0 [] ?own la last.length lc rfl (last.map sv) ?len ?src ?one ?small ?base ?_
          case own => exact (lit0 (W := wr) 9 rfl (Nat.le_refl _)).drew
          case len => simp
          case src => exact (HN.out.below bel_a1).out
          case one => exact one_sv _
          case small => omega
          case base => simp
          intro v1 w1' ho1 hg1
          have hb1 : Below wr.heap.size wr w1' := (bel_a1 (w := wr)).grown hg1 (by simp) (fun k hk => by have : wr.heap.size = k := Option.some.inj hk; omega)
          have hs1 := hb1.size
          have pc1 := (hb1.cell (p := ⟨b, off + j, none⟩) hbw).trans hc
          clear hg1)
       | (refine step_append_row wr.heap.size 9 i0 (.string ByteArray.empty) 1 16 hi0 hz0 hz1 hz2 rfl (by decide) (by decide) rfl (.tmp 31) (.tmp 32) 69 rfl Tryz.underlying69 _ rfl 0 [] ?own la last.length lc rfl (last.map sv) ?len ?src ?one ?small ?base ?_
          case own => exact ((lit0 (W := wr) 9 rfl (Nat.le_refl _)).alloc _).drew
          case len => simp
          case src => exact (HN.out.below bel_a2).out
          case one => exact one_sv _
          case small => omega
          case base => simp; omega
          intro v1 w1' ho1 hg1
          have hb1 : Below wr.heap.size wr w1' := (bel_a2 (w := wr)).grown hg1 (by simp; omega) (fun k hk => by have : wr.heap.size = k := Option.some.inj hk; omega)
          have hx1 : w1'.heap[wr.heap.size + 1]? = some (.cells #[.string ⟨r.toArray⟩] 9) := (hg1.block _ (by simp) (fun e => by have : wr.heap.size + 1 = wr.heap.size := Option.some.inj e; omega)).trans (heap_alloc2_new wr _ _)
          have hs1 := hb1.size
          have pc1 := (hb1.cell (p := ⟨b, off + j, none⟩) hbw).trans hc
          clear hg1)
       | (refine step_append_row wr.heap.size 9 i0 (.string ByteArray.empty) 1 16 hi0 hz0 hz1 hz2 rfl (by decide) (by decide) rfl (.tmp 31) (.tmp 32) 69 rfl Tryz.underlying69 _ rfl 0 [] ?own la last.length lc rfl (last.map sv) ?len ?src ?one ?small ?base ?_
          case own => exact (lit0 (W := wr.alloc (.cells #[.string ⟨r.toArray⟩] 9)) 9 (by simp) (by simp)).drew
          case len => simp
          case src => exact (HN.out.below bel_a2).out
          case one => exact one_sv _
          case small => omega
          case base => simp; omega
          intro v1 w1' ho1 hg1
          have hb1 : Below wr.heap.size wr w1' := (bel_a2 (w := wr)).grown hg1 (by simp; omega) (fun k hk => by have : wr.heap.size + 1 = k := Option.some.inj hk; omega)
          have hx1 : w1'.heap[wr.heap.size]? = some (.cells #[.string ⟨r.toArray⟩] 9) := (hg1.block _ (by simp; omega) (fun e => by have : wr.heap.size = wr.heap.size + 1 := Option.some.inj e; omega)).trans (heap_alloc2_old wr _ _)
          have hs1 := hb1.size
          have pc1 := (hb1.cell (p := ⟨b, off + j, none⟩) hbw).trans hc
          clear hg1)
       | (refine step_append_row wr.heap.size 9 i0 (.string ByteArray.empty) 1 16 hi0 hz0 hz1 hz2 rfl (by decide) (by decide) rfl (.tmp 33) (.tmp 38) 69 rfl Tryz.underlying69 _ rfl _ _ ho1 _ 1 1 rfl [.string ⟨r.toArray⟩] rfl ?src ?one ?small ?base ?_
          case src => exact Or.inl ⟨_, rfl, news_at (cs := #[.string ⟨r.toArray⟩]) hx1⟩
          case one => simp [Value.oneCell']
          case small => omega
          case base => exact hs1
          intro v2 w2' ho2 hg2
          have hb2 : Below wr.heap.size wr w2' := hb1.grown hg2 hs1 (fun k hk => row_own ho1 hk)
          have hs2 := hb2.size
          have pc2 := (hb2.cell (p := ⟨b, off + j, none⟩) hbw).trans hc
          clear hg2)
       | (refine step_append_row wr.heap.size 9 i0 (.string ByteArray.empty) 1 16 hi0 hz0 hz1 hz2 rfl (by decide) (by decide) rfl (.tmp 33) (.tmp 38) 69 rfl Tryz.underlying69 _ rfl _ _ (ho1.alloc _) _ 1 1 rfl [.string ⟨r.toArray⟩] rfl ?src ?one ?small ?base ?_
          case src => exact Or.inl ⟨_, rfl, news_at (cs := #[.string ⟨r.toArray⟩]) (heap_alloc_new _ _)⟩
          case one => simp [Value.oneCell']
          case small => omega
          case base => simp; omega
          intro v2 w2' ho2 hg2
          have hb2 : Below wr.heap.size wr w2' := (hb1.alloc hs1 _).grown hg2 (by simp; omega) (fun k hk => row_own ho1 hk)
          have hs2 := hb2.size
          have pc2 := (hb2.cell (p := ⟨b, off + j, none⟩) hbw).trans hc
          clear hg2)))
    all_goals
     obtain ⟨nx, hnx⟩ : ∃ nx, last ++ [r] = nx := ⟨_, rfl⟩
     have hnl : nx.length = last.length + 1 := by rw [← hnx]; simp
     have hnl2 : nx.length ≤ j + 1 := by omega
     have hfx : (formsF nx).length = (formsF last).length + 4 + r.length := by rw [← hnx, formsF_snoc]; simp [word_length]; omega
     have hbx := blockOf_length nx
     have hO2 : w2'.ownsRow wr.heap.size 9 1 v2 nx.length (nx.map sv) := by rw [← hnx]; simpa [sv] using ho2
     obtain ⟨na, nc, rfl, _, hLS2⟩ := newsAt_of_row hO2
     have hrb := fun W hW => rblock_any W w2'.heap.size na nc nx hW
     have hnew : blk < (blockOf nx).length → varStepB blk (out, last) r = (out ++ [blockOf last], [r]) := fun h => varStepB_new _ _ _ _ (by rw [hnx]; exact h)
     have hold : ¬ blk < (blockOf nx).length → varStepB blk (out, last) r = (out, nx) := fun h => by rw [varStepB_old _ _ _ _ (by rw [hnx]; exact h), hnx]
     have hbl1 : (blockOf nx).length ≤ 5000 := by omega
     generalize blockOf nx = bn at hbx hrb hnew hold hbl1
     have HRB := Lib.hid (hrb w2' hLS2 (Nat.le_refl _) (by omega) (by omega))
     have HNL := Lib.hid hnl
     have HFX := Lib.hid hfx
     have HBX := Lib.hid hbx
     have HO2 := Lib.hid hO2
     have HB2 := Lib.hid hb2
     clear hnx hnl hfx hbx hO2 ho2 hrb hLS2 hb1 hs1 pc1 hb2 hs2 pc2 pcd
     by_cases hgt : blk < bn.length
     · rw [hnew hgt] at HT
       clear hnew hold
       have hrl := fun W hW => rblock_any W wr.heap.size la lc last hW
       have hbl2 := blockOf_length last
       generalize blockOf last = bl at hrl hbl2 HT
       have HRL := Lib.hid hrl
       have HBL2 := Lib.hid hbl2
       clear hrl hbl2
       have hgI : (blk : Int) < (bn.length : Int) := by omega
       clear hgt
       go_wp2_with fail
       refine HRB.out.mono ?_
       rintro e w3 ⟨rfl, hb3⟩
       have HB3 := Lib.hid (HB2.out.trans (hb3.mono HB2.out.size))
       clear hb3
       go_wp2_with fail
       refine (HRL.out _ (HLS.out.below HB3.out) HB3.out.size (by omega) (by omega)).mono ?_
       rintro e w4 ⟨rfl, hb4⟩
       have HB4 := Lib.hid (HB3.out.trans (hb4.mono HB3.out.size))
       have hown4 := own_below HO.out HB4.out
       have HBw := Lib.hid (HB.out.trans (HB4.out.mono HB.out.size))
       clear hb4
       go_wp2_with (at_builtin; go_must (refine wpList_append_own _ rfl _ _ 69 rfl w.heap.size 9 i0 (.string ByteArray.empty) 1 16 Tryz.underlying69 hi0 hz0 hz1 hz2 rfl (by decide) _ _ _ rfl (hown4.alloc _) _ 1 1 [.string ⟨bl.toArray⟩] rfl rfl ?e11 ?e21 ?e31 ?e41 ?e51 ?_))
       case e11 => exact news_at (cs := #[.string ⟨bl.toArray⟩]) (heap_alloc_new _ _)
       case e21 => simp [Value.oneCell']
       case e31 => unfold maxLen; (try simp); omega
       case e41 => (try simp); omega
       case e51 => have := HBw.out.size; simp at this ⊢; omega
       intro v6 w6 hown6 hg6 _
       have hbA := HBw.out.alloc HBw.out.size (.cells #[.string ⟨bl.toArray⟩] 9)
       have hb6 := hbA.grown hg6 hbA.size (fun k hk => row_own hown4 hk)
       have hown7 : w6.ownsRow w.heap.size 9 1 v6 (out ++ [bl]).length ((out ++ [bl]).map sv) := by simpa [sv] using hown6
       have hc6 : w6.cell? ⟨b, off + j, none⟩ = some (.string ⟨r.toArray⟩) := (hb6.cell (p := ⟨b, off + j, none⟩) (Nat.lt_of_lt_of_le hbb hB)).trans ((HB.out.cell (p := ⟨b, off + j, none⟩) (Nat.lt_of_lt_of_le hbb hB)).symm.trans hc)
       have HZ := Lib.hid (show RvSt w blk l V (w6.alloc (.cells #[.string ⟨r.toArray⟩] 9)) (j + 1) (out ++ [bl]) [r] v6 (.slice (some ⟨w6.heap.size, 0, none⟩) 1 1) from
        ⟨hb6.alloc hb6.size _, hown7.alloc _, World.ownsRow_lit (base := w.heap.size) (e := 9) (size := 1) w6 #[.string ⟨r.toArray⟩] 1 hb6.size (by simp [maxLen]) rfl, HT.out, by rw [formsF_one]; omega, by simp; omega, by simp⟩)
       clear hown6 hown7 hg6 hbA hb6 hown4
       go_wp2_with fail
       go_roundw
       case rel => exact ⟨j + 1, _, _, by omega, by go_num, HZ.out, HA2.out⟩
       case measure => simp [intOf]; omega
     · rw [hold hgt] at HT
       clear hnew hold
       have hgI : ¬ (blk : Int) < (bn.length : Int) := by omega
       have HGT := Lib.hid hgt
       clear hgt
       go_wp2_with fail
       refine HRB.out.mono ?_
       rintro e w3 ⟨rfl, hb3⟩
       have HZ := Lib.hid (show RvSt w blk l V w3 (j + 1) out nx _ _ from
        ⟨HB.out.trans ((HB2.out.trans (hb3.mono HB2.out.size)).mono HB.out.size), own_below HO.out (HB2.out.trans (hb3.mono HB2.out.size)), own_below (own_mono HO2.out HB.out.size) hb3, HT.out, by have := HBX.out; have := HGT.out; omega, by omega, hnl2⟩)
       clear hb3
       go_wp2_with fail
       go_roundw
       case rel => exact ⟨j + 1, _, _, by omega, by go_num, HZ.out, HA2.out⟩
       case measure => simp [intOf]; omega
  · have htot := hS.tot
    rw [List.drop_eq_nil_of_le (by omega), List.foldl_nil] at htot
    clear hS
    by_cases hs : last = []
    · subst hs
      have hV : V = out := by simpa [rvFin] using htot
      have HT := Lib.hid hV
      clear htot hV
      go_wp2_with fail
      go_ret2
      rw [HT.out]
      exact ⟨fun _ => ⟨_, rfl, HO.out⟩, fun h => (by rw [HA.out.done (by omega)] at h; cases h), HB.out⟩
    · have hpos : 0 < last.length := List.length_pos_iff.2 hs
      have hV : V = out ++ [blockOf last] := by rw [htot]; unfold rvFin; rw [if_pos hpos]
      have hrl := fun W hW => rblock_any W wr.heap.size la lc last hW
      have hbl2 := blockOf_length last
      generalize blockOf last = bl at hrl hbl2 hV
      have HRL := Lib.hid hrl
      have HT := Lib.hid hV
      have HLS := Lib.hid hLS
      clear hrl hbl2 hV htot hN hLS
      go_wp2_with fail
      refine (HRL.out wr HLS.out (Nat.le_refl _) (by omega) (by omega)).mono ?_
      rintro e w4 ⟨rfl, hb4⟩
      have hown4 := own_below HO.out hb4
      have HBw := Lib.hid (HB.out.trans (hb4.mono HB.out.size))
      clear hb4
      go_wp2_with (at_builtin; go_must (refine wpList_append_own _ rfl _ _ 69 rfl w.heap.size 9 i0 (.string ByteArray.empty) 1 16 Tryz.underlying69 hi0 hz0 hz1 hz2 rfl (by decide) _ _ _ rfl (hown4.alloc _) _ 1 1 [.string ⟨bl.toArray⟩] rfl rfl ?e12 ?e22 ?e32 ?e42 ?e52 ?_))
      case e12 => exact news_at (cs := #[.string ⟨bl.toArray⟩]) (heap_alloc_new _ _)
      case e22 => simp [Value.oneCell']
      case e32 => unfold maxLen; (try simp); omega
      case e42 => (try simp); omega
      case e52 => have := HBw.out.size; simp at this ⊢; omega
      intro v6 w6 hown6 hg6 _
      have hbA := HBw.out.alloc HBw.out.size (.cells #[.string ⟨bl.toArray⟩] 9)
      have hb6 := hbA.grown hg6 hbA.size (fun k hk => row_own hown4 hk)
      have hown7 : w6.ownsRow w.heap.size 9 1 v6 (out ++ [bl]).length ((out ++ [bl]).map sv) := by simpa [sv] using hown6
      have HO7 := Lib.hid hown7
      have HB7 := Lib.hid hb6
      clear hown4 hown6 hown7 hg6 hbA hb6
      go_wp2
      go_ret2
      rw [HT.out]
      exact ⟨fun _ => ⟨_, rfl, HO7.out⟩, fun h => (by rw [HA.out.done (by omega)] at h; cases h), HB7.out⟩
end

section
set_option maxRecDepth 100000
set_option maxHeartbeats 8000000
section
open Go.RowKit Go.Sort
attribute [local go_sem] ByteArray.mk_append_mk strOfNums_size ext_drop ext_take
section
variable {ops : Array Oper} {o : Oper} {a : Act} {w : World} {K : Act → World → Prop} {Q : Exit → Act → World → Prop} {E : Prop}
/-- append whose source lies in cells, onto a row in new memory. -/
theorem step_append_wide (base : Nat) (e : TypeId) (i : TypeInfo) (z : Value) (size bytes : Nat) (hi : Tryz.prog.info? e = some i) (hz : i.zero = some z) (hsz : i.size = size) (hby : i.bytes = bytes) (hzs : z.cells.size = size) (h0 : 0 < size) (h24 : bytes ≤ 24)
 (hg : o.guard = none) (s x : Operand) (t : TypeId) (hop : o.op = Op.call { callee := Callee.builtin Builtin.append, args := #[s, x], argTypes := #[t, t] }) (ht : Tryz.prog.underlying t = some (.slice e))
 (vs : Value) (hs : a.eval s = vs) (n : Nat) (xs : List Value) (hown : w.ownsRow base e size vs n xs)
 (ad : Option Addr) (m c : Nat) (hx : a.eval x = .slice ad m c) (news : List Value) (hl : news.length = m * size)
 (hnews : (∃ p, ad = some p ∧ ∀ j u, news[j]? = some u → w.cell? (p.add j) = some u) ∨ (ad = none ∧ c = 0 ∧ m = 0)) (h1 : ∀ u ∈ news, u.oneCell' = true) (hlen : n + m ≤ 1000000000) (hbase : base ≤ w.heap.size)
 (hK : ∀ v' w', w'.ownsRow base e size v' (n + m) (xs ++ news) → w.grownBy w' vs.ownBlock → K (a.put o.dst v') w') :
 if Region.wanted o (yielded ops a.tmps) = true then Oper.wp Tryz.prog o a w K Q else E := by
 rcases hnews with ⟨p, rfl, hc⟩ | ⟨rfl, rfl, rfl⟩
 · obtain ⟨v', w', hr, h2, h3, _, _⟩ := run_append_own_at (P := Tryz.prog) w base t o.type e i z size bytes ht hi hz hsz hby hzs h0 vs n xs hown p m c news hl hc h1 (by simp only [maxLen]; omega) (Nat.le_trans (Nat.mul_le_mul hlen h24) (by decide)) hbase
   exact step_append_run hg s x t hop _ _ _ hs hx hr (hK _ _ h2 h3)
 · have hn : news = [] := List.length_eq_zero_iff.1 (by rw [hl]; simp)
   subst hn
   exact step_append_run hg s x t hop _ _ _ hs hx (run_append_owned_none (P := Tryz.prog) w base t o.type e i size ht hi vs n xs hown) (hK _ _ (by rw [List.append_nil]; exact hown) ⟨rfl, rfl, rfl, Nat.le_refl _, fun _ _ _ => rfl⟩)
end
/-- What the reference's loop holds. -/
structure RsSt (w : World) (blk : Nat) (l V : List By) (W : World) (j : Nat) (out : List By) (v : Value) : Prop where
 bel : Below w.heap.size w W
 own : W.ownsRow w.heap.size 9 1 v out.length (out.map sv)
 tot : V = (l.drop j).foldl (spanStepA blk) out
 big : ∀ x ∈ out, 4 ≤ x.length ∧ x.length ≤ blk
 few : out.length ≤ 1003 * j
 nil : j = 0 → out = []
 ne : 0 < j → out ≠ []
theorem own_init {w : World} {base : Nat} {e : TypeId} {g cap : Nat} {o : List By} {a : By} (h : w.ownsRow base e 1 (.slice (some ⟨g, 0, none⟩) (o ++ [a]).length cap) (o ++ [a]).length ((o ++ [a]).map sv)) : w.ownsRow base e 1 (.slice (some ⟨g, 0, none⟩) o.length cap) o.length (o.map sv) := by
 rcases h.2 with ⟨h1, h2⟩ | ⟨g', cap', cur, hv, hbase, hblk, q1, q2, q3, q4⟩
 · simp at h2
 · injection hv with e1 e2 e3
   injection e1 with e1
   injection e1 with e1
   subst e1 e3
   refine ⟨by simp, Or.inr ⟨_, _, cur, rfl, hbase, hblk, by simp at q1; omega, q2, q3, ?_⟩⟩
   have q5 : cur.toList.take (o ++ [a]).length = (o ++ [a]).map sv := by rw [← q4, Nat.mul_one]
   have := congrArg (List.take o.length) q5
   rw [List.take_take, Nat.min_eq_left (by simp), List.map_append, List.take_left' (by simp)] at this
   rw [Nat.mul_one]; exact this
theorem spanStep_put (blk : Nat) (h9 : 9 ≤ blk) (out : List By) (r : By) (h : ∀ x ∈ out, 4 ≤ x.length ∧ x.length ≤ blk) :
 spanStepA blk out r = if out = [] then putB blk (r.length + 2) false [] r else out.dropLast ++ putB blk (r.length + 2) false (out.getLastD []) r := by
 rw [← span_step blk h9 out r (fun x hx => (h x hx).1)]; rfl
theorem rspack_any (w : World) (B : Nat) (a : Option Addr) (cap : Nat) (l : List By) (len blk : Nat) (h : Strs w B a l) (hB : B ≤ w.heap.size) (hl : l.length ≤ 40000) (hv : spnV len blk = true) :
 Calls Tryz.prog 165 #[.int .i64 len, .int .i64 blk, .slice a l.length cap] w fun e w' => PackPost w (l.all fun r => decide (r.length ≤ len)) (spanA blk l) e w' := by
 have hbd : 1 ≤ (len : Int) ∧ (len : Int) ≤ 1000 ∧ (9 : Int) ≤ blk ∧ (blk : Int) ≤ 1024 := by simp [spnV] at hv; omega
 obtain ⟨d1, d2, d3, d4⟩ := hbd
 have h9 : 9 ≤ blk := by omega
 have h10 : blk ≤ 1024 := by omega
 have HV := Lib.hid hv
 clear hv
 obtain ⟨i0, hi0, hz0, hz1, hz2⟩ := info_parts info9
 have hT0 : spanA blk l = (l.drop 0).foldl (spanStepA blk) [] := rfl
 generalize spanA blk l = V at hT0 ⊢
 have HS := Lib.hid (show RsSt w blk l V (w.alloc (.cells #[] 9)) 0 [] (.slice (some ⟨w.heap.size, 0, none⟩) 0 0) from ⟨(Below.refl _ _).alloc (Nat.le_refl _) _, lit0 9 rfl (Nat.le_refl _), hT0, by simp, Nat.le_refl _, fun _ => rfl, fun h => absurd h (by omega)⟩)
 clear hT0
 go_enter Tryz.func165, Tryz.ntmps165
 go_wp2_with fail
 refine (rspn_valid _ _ _).mono ?_
 rintro e w1 ⟨rfl, rfl⟩
 rw [HV.out]
 go_wp2_with fail
 go_loopw [8, 9, 10] (fun o k _ wr => ∃ j out, j ≤ l.length ∧ k = .int .i64 (j : Nat) ∧ RsSt w blk l V wr j out o ∧ AllTo (fun r => decide (r.length ≤ len)) l j) (fun _ k _ _ => l.length - (intOf k).toNat)
 case atStart => exact ⟨0, [], by omega, rfl, HS.out, AllTo.zero _ _⟩
 case round =>
  clear HS
  obtain ⟨j, out, hj, rfl, hS, hall⟩ := hrel
  have HA := Lib.hid hall
  clear hall
  have hfew := hS.few
  have hol : out.length ≤ 40120000 := by omega
  have hbig := hS.big
  have HO := Lib.hid hS.own
  have HB := Lib.hid hS.bel
  by_cases hlt : j < l.length
  · obtain ⟨b, off, rfl, hbb, hc⟩ := (h.below (hS.bel.mono hB)).get hlt
    have hbw : b < wr.heap.size := by have := hS.bel.size; omega
    by_cases hkk : l[j].length ≤ len
    rotate_left
    · have HF := Lib.hid (all_bad (p := fun r => decide (r.length ≤ len)) hlt (decide_eq_false hkk))
      generalize l[j] = r at hc hkk
      have hle : ¬ (r.length : Int) ≤ (len : Int) := by omega
      have hle2 : (len : Int) < (r.length : Int) := by omega
      clear hkk
      go_wp2_with fail
      go_ret2
      exact ⟨fun h => (by rw [HF.out] at h; cases h), fun _ => rfl, HB.out⟩
    have HA2 := Lib.hid (HA.out.succ hlt (decide_eq_true hkk))
    have htot := hS.tot
    have hnil := hS.nil
    have hne := hS.ne
    rw [List.drop_eq_getElem_cons hlt, List.foldl_cons] at htot
    clear hS
    generalize l[j] = r at hc hkk htot
    have hsml := spanStepA_sml blk h9 out r hbig
    rw [spanStep_put blk h9 out r hbig] at htot hsml
    have hle : (r.length : Int) ≤ (len : Int) := by omega
    by_cases hj0 : j = 0
    · subst hj0
      obtain rfl := hnil rfl
      rw [if_pos rfl] at htot hsml
      have hpl := putB_le blk h9 r [] (fun h => absurd rfl h)
      have hpn := putB_ne blk (r.length + 2) false [] r
      have hput := fun W => put_any W blk [] r h9 h10 (by simp) (fun h => absurd rfl h) (by omega)
      generalize putB blk (r.length + 2) false [] r = P at htot hsml hpl hpn hput
      have HT := Lib.hid htot
      have HM := Lib.hid hsml
      have HN := Lib.hid hpn
      have HP := Lib.hid hput
      have hc : wr.cell? ⟨b, off, none⟩ = some (.string ⟨r.toArray⟩) := hc
      clear htot hsml hpn hput hnil hne hbig
      go_wp2_with fail
      refine (HP.out _).mono ?_
      rintro e w3 ⟨v3, rfl, ho3, hb3⟩
      have HZ := Lib.hid (show RsSt w blk l V w3 (0 + 1) P v3 from ⟨HB.out.trans (hb3.mono HB.out.size), own_mono ho3 HB.out.size, HT.out, HM.out, by omega, fun h => absurd h (by omega), fun _ => HN.out⟩)
      clear ho3 hb3
      go_wp2_with fail
      go_roundw
      case rel => exact ⟨1, P, by omega, by rfl, HZ.out, HA2.out⟩
      case measure => simp [intOf]; omega
    · have hjp : 0 < j := by omega
      obtain ⟨o1, a1, rfl⟩ : ∃ o1 a1, out = o1 ++ [a1] := ⟨_, _, (List.dropLast_concat_getLast (hne hjp)).symm⟩
      rw [if_neg (by simp), List.dropLast_concat, List.getLastD_concat] at htot hsml
      have ha1 := hbig a1 (by simp)
      have hpl := putB_le blk h9 r a1 (fun _ => ha1.1)
      have hput := fun W => put_any W blk a1 r h9 h10 (by omega) (fun _ => ha1.1) (by omega)
      have hpn := putB_ne blk (r.length + 2) false a1 r
      generalize putB blk (r.length + 2) false a1 r = P at htot hsml hpl hpn hput
      have HT := Lib.hid htot
      have HM := Lib.hid hsml
      have HN := Lib.hid hpn
      have HP := Lib.hid hput
      have hol1 : o1.length + 1 ≤ 1003 * j := by simpa using hfew
      clear htot hsml hpn hput hnil hne hbig hfew hol
      obtain ⟨g, cp, rfl, hg, hgl, hcell, hfr, _⟩ := row_set HO.out o1.length (by simp)
      rw [List.getElem_append_right (Nat.le_refl _)] at hcell
      simp only [Nat.sub_self, List.getElem_cons_zero] at hcell
      have HI := Lib.hid (own_init HO.out)
      have hcpl : o1.length + 1 ≤ cp := by have := (strs_of_row HO.out); obtain ⟨_, c, e, _, hh⟩ := this; injection e with _ _ e3; rw [← e3] at hh; simpa using hh
      rw [show (o1 ++ [a1]).length = o1.length + 1 by simp]
      have e1 : (j == 0) = false := by simp [hj0]
      have e2 : ((j : Int) == 0) = false := by simp; omega
      have hcd : wr.drew.cell? ⟨b, off + j, none⟩ = some (.string ⟨r.toArray⟩) := hc
      have hcd2 : wr.drew.cell? ⟨g, o1.length, none⟩ = some (.string ⟨a1.toArray⟩) := hcell
      go_wp2_with fail
      have hx0 : (0 : Int) ≤ (o1.length : Int) := by omega
      have hx1 : (o1.length : Int) < (o1.length : Int) + 1 := by omega
      have hx2 : (o1.length : Int) ≤ (cp : Int) := by omega
      have hx3 : (j : Int) < (l.length : Int) := by omega
      go_region_law (first
       | (go_simp
          refine (HP.out _).mono ?_
          rintro e w3 ⟨v3, rfl, ho3, hb3⟩
          have hb3 : Below wr.heap.size wr w3 := below_drew1.trans hb3)
       | (obtain ⟨na, nc, rfl, hN3, _⟩ := newsAt_of_row ho3
          refine step_append_wide w.heap.size 9 i0 (.string ByteArray.empty) 1 16 hi0 hz0 hz1 hz2 rfl (by decide) (by decide) rfl (.tmp 42) (.tmp 52) 69 rfl Tryz.underlying69 _ rfl _ _ (own_below HI.out hb3) na P.length nc rfl (P.map sv) (by simp) hN3.out (one_sv _) (by omega) (by have := HB.out.size; have := hb3.size; omega) ?_
          intro v4 w4 ho4 hg4))
      all_goals
       have hw3 := hb3.size
       have hb4 : Below w.heap.size w w4 := (HB.out.trans (hb3.mono HB.out.size)).grown hg4 (Nat.le_trans HB.out.size hw3) (fun k hk => row_own (own_below HI.out hb3) hk)
       have hO4 : w4.ownsRow w.heap.size 9 1 v4 (o1 ++ P).length ((o1 ++ P).map sv) := by rw [List.length_append, List.map_append]; exact ho4
       have HZ := Lib.hid (show RsSt w blk l V w4 (j + 1) (o1 ++ P) v4 from ⟨hb4, hO4, HT.out, HM.out, by rw [List.length_append]; omega, fun h => absurd h (by omega), fun _ h => HN.out (List.append_eq_nil_iff.1 h).2⟩)
       clear ho3 hb3 hw3 hb4 hO4 ho4 hg4 hN3
       go_wp2_with fail
       go_roundw
       case rel => exact ⟨j + 1, _, by omega, by go_num, HZ.out, HA2.out⟩
       case measure => simp [intOf]; omega
  · have htot := hS.tot
    rw [List.drop_eq_nil_of_le (by omega), List.foldl_nil] at htot
    have HT := Lib.hid htot
    clear hS htot hbig
    go_wp2_with fail
    go_ret2
    rw [HT.out]
    exact ⟨fun _ => ⟨_, rfl, HO.out⟩, fun h => (by rw [HA.out.done (by omega)] at h; cases h), HB.out⟩
end
section
open Go.RowKit Go.Sort
variable {z : Rest}
/-- PackPost by its results. -/
structure PackVal (w : World) (ok : Bool) (V : List By) (v : Value) (k : Int) (w' : World) : Prop where
 good : ok = true → k = 0 ∧ w'.ownsRow w.heap.size 9 1 v V.length (V.map sv)
 bad : ok = false → k = 2 ∧ v = .slice none 0 0
 bel : Below w.heap.size w w'
theorem PackPost.val {w w' : World} {ok : Bool} {V : List By} {e : Ending} (h : PackPost w ok V e w') : ∃ v k, e = .returned (.tuple #[v, .int .i64 k]) ∧ PackVal w ok V v k w' := by
 cases ok
 · exact ⟨_, _, h.bad rfl, (fun h => by cases h), fun _ => ⟨rfl, rfl⟩, h.bel⟩
 · obtain ⟨v, he, ho⟩ := h.good rfl
   exact ⟨_, _, he, fun _ => ⟨rfl, ho⟩, (fun h => by cases h), h.bel⟩
theorem PackVal.post {w w' : World} {ok : Bool} {V : List By} {v : Value} {k : Int} (h : PackVal w ok V v k w') : PackPost w ok V (.returned (.tuple #[v, .int .i64 k])) w' :=
 ⟨fun e => ⟨v, by rw [(h.good e).1], (h.good e).2⟩, fun e => by rw [(h.bad e).1, (h.bad e).2], h.bel⟩
theorem PackVal.from {w w1 w' : World} {ok : Bool} {V : List By} {v : Value} {k : Int} (h : PackVal w1 ok V v k w') (hb : Below w.heap.size w w1) : PackVal w ok V v k w' :=
 ⟨fun e => ⟨(h.good e).1, own_mono (h.good e).2 hb.size⟩, h.bad, hb.trans (h.bel.mono hb.size)⟩
theorem rpack0_any (org : Int) (len blk : Nat) (w : World) (B : Nat) (a : Option Addr) (cap : Nat) (l : List By) (h : Strs w B a l) (hB : B ≤ w.heap.size) (hl : l.length ≤ 40000) (hv : fixV len blk = true) :
 Calls Tryz.prog 126 #[.agg (dsv z org 0 len blk), .slice a l.length cap] w fun e w' => PackPost w (l.all fun r => decide (r.length = len)) (fixB (blk / len) l) e w' := by
 obtain ⟨ok, hok⟩ : ∃ ok, (l.all fun r => decide (r.length = len)) = ok := ⟨_, rfl⟩
 have HB := Lib.hid (box_below w (dsv z org 0 len blk) 45)
 have hZ := heap_alloc_new w (.cells (dsv z org 0 len blk) 45)
 have c2 := cell_at (i := 2) (v := .int .i64 0) hZ rfl
 have c3 := cell_at (i := 3) (v := .int .i64 len) hZ rfl
 have c4 := cell_at (i := 4) (v := .int .i64 blk) hZ rfl
 have HP := Lib.hid (rfpack_any (w.alloc (.cells (dsv z org 0 len blk) 45)) B a cap l len blk (h.below (HB.out.mono hB)) (by simp; omega) (by omega) hv)
 rw [hok] at HP ⊢
 generalize (fixB (blk / len) l) = V at HP ⊢
 clear hok hv hZ
 go_enter Tryz.func126, Tryz.ntmps126
 go_wp2_with fail
 refine HP.out.mono ?_
 rintro e w1 hP
 obtain ⟨v, k, rfl, hV⟩ := hP.val
 have HV := Lib.hid (hV.from HB.out)
 clear hP hV
 go_wp2
 go_ret2
 exact HV.out.post
theorem rpack1_any (org : Int) (len blk : Nat) (w : World) (B : Nat) (a : Option Addr) (cap : Nat) (l : List By) (h : Strs w B a l) (hB : B ≤ w.heap.size) (hl : l.length ≤ 40000) (hv : varV len blk = true) :
 Calls Tryz.prog 126 #[.agg (dsv z org 1 len blk), .slice a l.length cap] w fun e w' => PackPost w (l.all fun r => decide (r.length ≤ len)) (varB blk l) e w' := by
 obtain ⟨ok, hok⟩ : ∃ ok, (l.all fun r => decide (r.length ≤ len)) = ok := ⟨_, rfl⟩
 have HB := Lib.hid (box_below w (dsv z org 1 len blk) 45)
 have hZ := heap_alloc_new w (.cells (dsv z org 1 len blk) 45)
 have c2 := cell_at (i := 2) (v := .int .i64 1) hZ rfl
 have c3 := cell_at (i := 3) (v := .int .i64 len) hZ rfl
 have c4 := cell_at (i := 4) (v := .int .i64 blk) hZ rfl
 have HP := Lib.hid (rvpack_any (w.alloc (.cells (dsv z org 1 len blk) 45)) B a cap l len blk (h.below (HB.out.mono hB)) (by simp; omega) (by omega) hv)
 rw [hok] at HP ⊢
 generalize (varB blk l) = V at HP ⊢
 clear hok hv hZ
 go_enter Tryz.func126, Tryz.ntmps126
 go_wp2_with fail
 refine HP.out.mono ?_
 rintro e w1 hP
 obtain ⟨v, k, rfl, hV⟩ := hP.val
 have HV := Lib.hid (hV.from HB.out)
 clear hP hV
 go_wp2
 go_ret2
 exact HV.out.post
theorem rpack2_any (org fmt : Int) (len blk : Nat) (h0 : ¬ fmt = 0) (h1 : ¬ fmt = 1) (w : World) (B : Nat) (a : Option Addr) (cap : Nat) (l : List By) (h : Strs w B a l) (hB : B ≤ w.heap.size) (hl : l.length ≤ 40000) (hv : spnV len blk = true) :
 Calls Tryz.prog 126 #[.agg (dsv z org fmt len blk), .slice a l.length cap] w fun e w' => PackPost w (l.all fun r => decide (r.length ≤ len)) (spanA blk l) e w' := by
 obtain ⟨ok, hok⟩ : ∃ ok, (l.all fun r => decide (r.length ≤ len)) = ok := ⟨_, rfl⟩
 have HB := Lib.hid (box_below w (dsv z org fmt len blk) 45)
 have hZ := heap_alloc_new w (.cells (dsv z org fmt len blk) 45)
 have c2 := cell_at (i := 2) (v := .int .i64 fmt) hZ rfl
 have c3 := cell_at (i := 3) (v := .int .i64 len) hZ rfl
 have c4 := cell_at (i := 4) (v := .int .i64 blk) hZ rfl
 have HP := Lib.hid (rspack_any (w.alloc (.cells (dsv z org fmt len blk) 45)) B a cap l len blk (h.below (HB.out.mono hB)) (by simp; omega) (by omega) hv)
 rw [hok] at HP ⊢
 generalize (spanA blk l) = V at HP ⊢
 have e0 : (fmt == 0) = false := by simp [h0]
 have e1 : (fmt == 1) = false := by simp [h1]
 clear h0 h1
 clear hok hv hZ
 go_enter Tryz.func126, Tryz.ntmps126
 go_wp2_with fail
 refine HP.out.mono ?_
 rintro e w1 hP
 obtain ⟨v, k, rfl, hV⟩ := hP.val
 have HV := Lib.hid (hV.from HB.out)
 clear hP hV
 go_wp2
 go_ret2
 exact HV.out.post
end
end

end Go.Proofs.YtcefkngblddpoaaGreatDoor

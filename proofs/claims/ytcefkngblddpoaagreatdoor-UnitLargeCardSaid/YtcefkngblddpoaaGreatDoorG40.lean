/-
  Walks: the range of all keys; a change of a label. Condition: unit and manager lie in memory, apart; the lock can be asked for; texts are not too long.
  Walks: what the empty data set that counts is; the keys that records behind it get; a change that needs no key filled in. Condition: they lie in memory.
  Walks: the key and the range of a change of records that is not an append. Condition: the unit lies in memory.
-/
import Derived.Test.YtcefkngblddpoaaGreatDoorG39
import Derived.Test.YtcefkngblddpoaaGreatDoorG10
import Derived.Test.YtcefkngblddpoaaGreatDoorG15
namespace Go.Proofs.YtcefkngblddpoaaGreatDoor

section
set_option linter.unusedSimpArgs false
set_option linter.unusedVariables false
open Go.RowKit Go.Sort
def everyR : Rg := ⟨[], [], true⟩
section
attribute [local go_sem ↓] loadRg_down storeRg_down
end
/-- Further changes, from outside. -/
theorem uadd_at (w : World) (S : List Nat) (p : Nat) (bv lv : Value) (u : Un) (k : By) (a : Option Addr) (cap : Nat) (l : List Ch) (h : UnAt w S p bv lv u) (hl : ChsF w S a l) (hn : l.length ≤ 300) (hch : ∀ c ∈ u.chs ++ l, ChLen c) (hid : ∀ c ∈ l, I64 c.id) (hk : k.length ≤ 1000000) (hnil : a = none → cap = 0)
 (hbnd : ∀ (j : Nat) (hj : j < l.length), (ownOf (applyL { u with chs := u.chs ++ l } k (l.take j)) l[j].id).lens.length ≤ 1000000) :
 Calls Tryz.prog 142 #[.pointer (some ⟨p, 0, none⟩), .string ⟨k.toArray⟩, .slice a l.length cap] w fun e w' => e = .returned (.int .i64 (addU u k l).1) ∧ ∃ S', UnAt w' S' p bv lv (addU u k l).2 ∧ Mv S w S' w' := by
 obtain ⟨K, rfl, rfl, rfl, rfl, hK⟩ := h
 refine (uadd_w w K u k a cap l hK hl hn hch hid hk hnil hbnd).mono ?_
 rintro e w' ⟨h1, k', h2, h3, h4⟩
 exact ⟨h1, k'.m, h3.at' h2 rfl rfl rfl, h4⟩
/-- One change in a block of its own. -/
theorem chs_one {w : World} {g : Nat} {c : Ch} {t : TypeId} (hg : w.heap[g]? = some (.cells c.cs t (0, 0))) : Chs w w.heap.size (some ⟨g, 0, none⟩) [c] := by
 refine ⟨fun _ => ⟨g, 0, rfl, lt_of_block hg, fun i hi => ?_⟩⟩
 obtain rfl : i = 0 := by simpa using hi
 exact ⟨show w.cell? ⟨g, 0, none⟩ = _ from cell_at (i := 0) hg rfl, show w.cell? ⟨g, 1, none⟩ = _ from cell_at (i := 1) hg rfl, show w.cell? ⟨g, 2, none⟩ = _ from cell_at (i := 2) hg rfl, show w.cell? ⟨g, 3, none⟩ = _ from cell_at (i := 3) hg rfl, show w.cell? ⟨g, 4, none⟩ = _ from cell_at (i := 4) hg rfl⟩
/-- What a change leaves. -/
def DoE (R : (By × Int) × (Un × Ls)) (S M : List Nat) (p m : Nat) (bv : Value) (w : World) (e : Ending) (w' : World) : Prop := e = .returned (.tuple (getT R.1)) ∧ ∃ S' M', UM w' S' M' p m bv R.2.1 R.2.2 ∧ Mv (S ++ M) w (S' ++ M') w'
section
attribute [local go_sem ↓] loadCh_down storeCh_down
end
end

section
set_option maxRecDepth 100000
set_option maxHeartbeats 4000000
set_option linter.unusedSimpArgs false
set_option linter.unusedVariables false
open Go.RowKit Go.Sort
theorem ret_ds3 {fn : Func} {R : Ending → World → Prop} {a : Act} {w : World} {p u v : Tmp} {rb : Nat} {cs : Array Value} {x y : Value} (hf : fn.results = #[.cell p 45, .tmp u, .tmp v]) (hp : a.tmps.getD p undef = .pointer (some ⟨rb, 0, none⟩)) (hu : a.tmps.getD u undef = x) (hv : a.tmps.getD v undef = y) (hd : a.defers = [])
 (hi : cs.size = 21) (hg : w.heap[rb]? = some (.cells cs 45 (0, 0))) (hR : R (.returned (.tuple #[.agg cs, x, y])) w) : bodyPost Tryz.prog fn R .ret a w := by
 have hp' : a.tmps[p]?.getD undef = .pointer (some ⟨rb, 0, none⟩) := by simpa using hp
 have hu' : a.tmps[u]?.getD undef = x := by simpa using hu
 have hv' : a.tmps[v]?.getD undef = y := by simpa using hv
 refine bodyPost_ret ?_ hd hR
 simp [results, hf, hp', hu', hv', asAddr, run_loadVar_row w rb 45 45 cs (0, 0) _ hg Tryz.underlying45 rfl (by rw [info_ds, hi])]
abbrev stE (s : By) : Array Value := #[.string ⟨s.toArray⟩]
theorem encSt : Enc Tryz.prog stE 69 9 1 := by
 obtain ⟨i, h1, h2, h3, h4⟩ := info_parts (show (Tryz.prog.info? 9).map (fun i => (i.zero, i.size, i.bytes)) = some (some (.string ⟨#[]⟩), 1, 16) by kernel_rfl)
 exact ⟨Tryz.underlying69, ⟨i, _, h1, h2, h3, by omega, rfl, by omega⟩, fun _ => rfl, fun x u hu => by simp at hu; subst hu; rfl⟩
abbrev StRow (w : World) (base : Nat) (v : Value) (l : List By) : Prop := RowE stE 9 1 w base v l
/-- The keys of an empty data set's records. -/
def slotsTo (n : Nat) : List By := (List.range n).map fun i => slotB (i + 1)
theorem slotsTo_snoc (n : Nat) : slotsTo (n + 1) = slotsTo n ++ [slotB (n + 1)] := by
 unfold slotsTo; rw [List.range_succ, List.map_append]; rfl
theorem slotsTo_len (n : Nat) : (slotsTo n).length = n := by simp [slotsTo]
theorem cplaces_w (w : World) (p : Nat) (id : Int) (f : Bool) (a : Option Addr) (n cap : Nat) (hn : n ≤ 1000000) :
 Calls Tryz.prog 298 #[.pointer (some ⟨p, 0, none⟩), .int .i64 id, .bool f, .slice a n cap] w fun e w' => ∃ v, e = .returned (.tuple #[v, .int .i64 0]) ∧ StRow w' w.heap.size v (slotsTo n) ∧ Below w.heap.size w w' := by
 go_enter Tryz.func298, Tryz.ntmps298
 go_wp2_with fail
 go_loopw [10, 14] (fun v t wr => ∃ j : Nat, j ≤ n ∧ t = .int .i64 j ∧ StRow wr w.heap.size v (slotsTo j) ∧ Below w.heap.size w wr) (fun _ t _ => n - (intOf t).toNat)
 case atStart => exact ⟨0, by omega, rfl, RowE.nil _ _, Below.refl _ _⟩
 case round =>
  obtain ⟨j, hj, rfl, hrow, hb⟩ := hrel
  have HB := Lib.hid hb
  obtain ⟨va, vc, hv⟩ := RowE.spell encSt hrow
  subst hv
  have HR := Lib.hid hrow
  by_cases hlt : j < n
  · have hltI : (j : Int) < (n : Int) := by omega
    have HSL := Lib.hid (rslot_any' (j + 1) ((j : Int) + 1) (by simp) wr (by omega))
    have HSN := Lib.hid (slotsTo_snoc j)
    have HLN := Lib.hid (show (slotsTo j).length ≤ 1000000 by rw [slotsTo_len]; omega)
    unfold sv at HSL
    clear hb hrow
    generalize slotsTo j = X at HR HSN HLN
    generalize slotB (j + 1) = s at HSL HSN
    go_wp2_with fail
    refine HSL.out.mono ?_
    rintro e w2 ⟨rfl, hb2⟩
    have HB2 := Lib.hid (HB.out.trans (hb2.mono HB.out.size))
    have HR2 := Lib.hid (RowE.below HR.out hb2)
    clear hb2
    go_wp2_with (at_builtin; go_must (refine wpList_append_one rfl _ _ rfl encSt w.heap.size (.slice va X.length vc) X s rfl (RowE.below HR2.out (box_below0 _ _ _)) w2.heap.size rfl (heap_alloc_new w2 (.cells (stE s) 9)) rfl ?e1 ?e2 ?_))
    case e1 => exact HLN.out
    case e2 => have := HB2.out.size; simp; omega
    intro v' w5 hR5 hg5 _
    have HR5 := Lib.hid (show StRow w5 w.heap.size v' (slotsTo (j + 1)) by rw [HSN.out]; exact hR5)
    have HB5 := Lib.hid (show Below w.heap.size w w5 from ((Only.of_below (S := []) (HB2.out.trans ((box_below0 w2 (stE s) 9).mono HB2.out.size))).grown hg5 (fun x hx => Or.inr (row_own HR2.out hx))).to_below)
    clear hR5 hg5
    go_wp2_with fail
    go_roundw
    case rel => exact ⟨j + 1, by omega, by go_num, HR5.out, HB5.out⟩
    case measure => (simp [intOf]) <;> omega
  · have hltI : ¬ (j : Int) < (n : Int) := by omega
    obtain rfl : j = n := by omega
    clear hlt hb hrow
    go_wp2_with fail
    clear hltI
    go_ret2
    exact ⟨_, rfl, HR.out, HB.out⟩
section
attribute [local go_sem ↓] loadDs_down storeDs_down
theorem cset_w (w : World) (p : Nat) (z : Rest) (org fmt len blk id : Int) (h : w.heap[p]? = some (.cells (dsv z org fmt len blk) 99 (0, 0))) :
 Calls Tryz.prog 299 #[.pointer (some ⟨p, 0, none⟩), .int .i64 id] w fun e w' => e = .returned (.tuple #[.agg (dsv z org fmt len blk), .slice none 0 0, .int .i64 0]) ∧ Below w.heap.size w w' := by
 have hz := heap_alloc_new w (.cells dsZ 45)
 have hb := box_below0 w dsZ 45
 have ld := loadDs_at (heap_below hb (lt_of_block h) h) rfl
 have hst := storeDs_at (z := z) (org := org) (fmt := fmt) (len := len) (blk := blk) hz rfl
 have hz2 := setRow_heap _ _ _ (dsv z org fmt len blk) _ _ hz
 have hb2 := below_setRow hb (Nat.le_refl _) (dsv z org fmt len blk)
 obtain ⟨W, hW⟩ : ∃ W, W = (w.alloc (.cells dsZ 45)).setRow w.heap.size (dsv z org fmt len blk) := ⟨_, rfl⟩
 rw [← hW] at hst hz2 hb2
 have HZ := Lib.hid hz2
 have HB := Lib.hid hb2
 clear h hz hb hz2 hb2 hW
 go_enter Tryz.func299, Tryz.ntmps299
 go_wp2_with fail
 exact ret_ds3 rfl rfl rfl rfl rfl rfl HZ.out ⟨rfl, HB.out⟩
end
/-- A change of a set that is not keyed, or one that does not put, stays as it is. -/
theorem complete_no (w : World) (g : Nat) (c : Ch) (z : Rest) (org fmt len blk : Int) (h : w.heap[g]? = some (.cells c.cs 36 (0, 0))) (hn : org ≠ 3 ∨ c.kind ≠ 0) :
 Calls Tryz.prog 143 #[.agg (dsv z org fmt len blk), .pointer (some ⟨g, 0, none⟩)] w fun e w' => e = .returned (.int .i64 0) ∧ Below w.heap.size w w' := by
 have hb := box_below0 w (dsv z org fmt len blk) 45
 have hz := heap_alloc_new w (.cells (dsv z org fmt len blk) 45)
 obtain ⟨W, hW⟩ : ∃ W, W = w.alloc (.cells (dsv z org fmt len blk) 45) := ⟨_, rfl⟩
 rw [← hW] at hb hz
 have HW := Lib.hid hW
 have HB := Lib.hid hb
 have c1 := cell_at (i := 1) (v := .int .i64 org) hz rfl
 have k0 := cell_at (i := 0) (v := .int .i64 c.kind) (heap_below hb (lt_of_block h) h) rfl
 clear hb hz h hW
 by_cases h3 : org = 3
 · have hk : c.kind ≠ 0 := by rcases hn with q | q; exact absurd h3 q; exact q
   have g3 : ((org : Int) != 3) = false := by simpa using h3
   have gk : ((c.kind : Int) != 0) = true := by simpa using hk
   clear h3 hk hn
   go_enter Tryz.func143, Tryz.ntmps143
   go_upto_region 1 with fail
   rw [← HW.out]
   go_wp2_with fail
   go_ret
   exact ⟨rfl, HB.out⟩
 · have g3 : ((org : Int) != 3) = true := by simpa using h3
   clear h3 hn
   go_enter Tryz.func143, Tryz.ntmps143
   go_upto_region 1 with fail
   rw [← HW.out]
   go_wp2_with fail
   go_ret
   exact ⟨rfl, HB.out⟩
end

section
set_option maxRecDepth 100000
set_option maxHeartbeats 4000000
set_option linter.unusedSimpArgs false
set_option linter.unusedVariables false
open Go.RowKit Go.Sort
theorem ret_krg {fn : Func} {R : Ending → World → Prop} {a : Act} {w : World} {p u v : Tmp} {rb : Nat} {cs : Array Value} {x y : Value} (hf : fn.results = #[.tmp u, .cell p 58, .tmp v]) (hp : a.tmps.getD p undef = .pointer (some ⟨rb, 0, none⟩)) (hu : a.tmps.getD u undef = x) (hv : a.tmps.getD v undef = y) (hd : a.defers = [])
 (hi : cs.size = 3) (hg : w.heap[rb]? = some (.cells cs 58 (0, 0))) (hR : R (.returned (.tuple #[x, .agg cs, y])) w) : bodyPost Tryz.prog fn R .ret a w := by
 have hp' : a.tmps[p]?.getD undef = .pointer (some ⟨rb, 0, none⟩) := by simpa using hp
 have hu' : a.tmps[u]?.getD undef = x := by simpa using hu
 have hv' : a.tmps[v]?.getD undef = y := by simpa using hv
 refine bodyPost_ret ?_ hd hR
 simp [results, hf, hp', hu', hv', asAddr, run_loadVar_row w rb 58 58 cs (0, 0) _ hg Tryz.underlying58 rfl (by rw [info_rg, hi])]
section
attribute [local go_sem ↓] loadCh_down storeCh_down loadRg_down storeRg_down
theorem target_pt (w : World) (p : Nat) (c : Ch) (h3 : c.kind ≠ 3) (h2 : c.kind ≠ 2) :
 Calls Tryz.prog 144 #[.pointer (some ⟨p, 0, none⟩), .agg c.cs] w fun e w' => e = .returned (.tuple #[.string ⟨c.key.toArray⟩, .agg (pointR c.key).cs, .int .i64 0]) ∧ Below w.heap.size w w' := by
 obtain ⟨w0, hw0⟩ : ∃ w0, w0 = w.alloc (.cells c.cs 36) := ⟨_, rfl⟩
 have hx : w0.heap[w.heap.size]? = some (.cells c.cs 36 (0, 0)) := by rw [hw0]; exact heap_alloc_new w _
 have hb0 : Below w.heap.size w w0 := by rw [hw0]; exact box_below0 _ _ _
 have hs0 : w0.heap.size = w.heap.size + 1 := by rw [hw0]; exact World.size_alloc _ _
 obtain ⟨W, hW⟩ : ∃ W, W = w0.alloc (.cells rgZ 58) := ⟨_, rfl⟩
 have hbW : Below w0.heap.size w0 W := by rw [hW]; exact box_below0 _ _ _
 have hzW : W.heap[w.heap.size + 1]? = some (.cells rgZ 58 (0, 0)) := by rw [hW, ← hs0]; exact heap_alloc_new _ _
 have hxW := heap_below hbW (lt_of_block hx) hx
 have k0 := cell_at (i := 0) (v := .int .i64 c.kind) hxW rfl
 have k2 := cell_at (i := 2) (v := .string ⟨c.key.toArray⟩) hxW rfl
 have g3 : ((c.kind : Int) == 3) = false := by simpa using h3
 have g2 : ((c.kind : Int) == 2) = false := by simpa using h2
 have HWE := Lib.hid (show W = (w.alloc (.cells c.cs 36)).alloc (.cells rgZ 58) by rw [hW, hw0])
 have HB := Lib.hid (hb0.trans (hbW.mono hb0.size))
 have HZ := Lib.hid hzW
 have HPT := Lib.hid (fun W => point_any c.key W)
 clear hx hb0 hs0 hbW hzW hW hw0 w0 h2 h3 hxW
 go_enter Tryz.func144, Tryz.ntmps144
 go_upto_region 1 with fail
 rw [← HWE.out]
 go_upto_region 13 with fail
 refine wp_region_held_drew (S := fun W => W.cell? ⟨w.heap.size, 2, none⟩ = some (.string ⟨c.key.toArray⟩)) (by kernel_rfl) k2 (fun hHeld => ?_)
 refine tk 0 (.pointer (some ⟨w.heap.size, 2, none⟩)) 77 ?_
 refine tk 2 (.pointer (some ⟨w.heap.size, 2, none⟩)) 79 ?_
 refine tk 1 (.string ⟨c.key.toArray⟩) 78 ?_
 refine tk 3 (.string ⟨c.key.toArray⟩) 80 ?_
 refine rd1 4 fun K hK => ?_
 go_simp
 refine (HPT.out W.drew).mono ?_
 rintro e V1 ⟨rfl, hb⟩
 have hbd : Below W.heap.size W V1 := (below_drewN (Below.refl W.heap.size W) 1).trans hb
 have hz2 := heap_below hbd (lt_of_block HZ.out) HZ.out
 have k21 := (hbd.cell (p := ⟨w.heap.size, 2, none⟩) (block_lt_of_cell k2)).trans k2
 have hst := storeRg_at (cs := #[.string ⟨c.key.toArray⟩, .string ⟨c.key.toArray⟩, .bool false]) hz2 rfl rfl (by simp [Value.oneCell'])
 have hz3 := setRow_heap _ _ _ #[.string ⟨c.key.toArray⟩, .string ⟨c.key.toArray⟩, .bool false] _ _ hz2
 have hb3 := below_setRow (g := w.heap.size + 1) (HB.out.trans (hbd.mono HB.out.size)) (by omega) #[.string ⟨c.key.toArray⟩, .string ⟨c.key.toArray⟩, .bool false]
 have k22 : (V1.setRow (w.heap.size + 1) #[.string ⟨c.key.toArray⟩, .string ⟨c.key.toArray⟩, .bool false]).cell? ⟨w.heap.size, 2, none⟩ = some (.string ⟨c.key.toArray⟩) := by
  have := ((Only.refl [w.heap.size + 1] V1).setRow (g := w.heap.size + 1) (Or.inl (by simp)) #[.string ⟨c.key.toArray⟩, .string ⟨c.key.toArray⟩, .bool false]).cell (p := ⟨w.heap.size, 2, none⟩) (block_lt_of_cell k21) (by simp)
  exact this.trans k21
 obtain ⟨W3, hW3⟩ : ∃ W3, W3 = V1.setRow (w.heap.size + 1) #[.string ⟨c.key.toArray⟩, .string ⟨c.key.toArray⟩, .bool false] := ⟨_, rfl⟩
 rw [← hW3] at hst hz3 hb3 k22
 have HZ3 := Lib.hid hz3
 have HB3 := Lib.hid hb3
 have K22 := Lib.hid k22
 clear hb hbd hz2 hz3 hb3 hW3 k22
 refine hK.out _ _ k21 (fun hHeld => ?_)
 clear hK K
 try simp only [lay]
 refine tk 5 (.string ⟨c.key.toArray⟩) 4 ?_
 refine rd1 6 fun K hK => ?_
 go_simp
 (try go_wp2_with fail)
 refine hK.out _ _ (K22.out) (fun hHeld => ?_)
 clear hK K
 try simp only [lay]
 refine tk 7 (.int .i64 0) 6 ?_
 refine wpAnyH_done (by kernel_rfl) ?_ _
 clear k2 k21 hst k0
 go_wp2_with fail
 exact ret_krg rfl rfl rfl rfl rfl rfl HZ3.out ⟨rfl, HB3.out⟩
end
end

end Go.Proofs.YtcefkngblddpoaaGreatDoor

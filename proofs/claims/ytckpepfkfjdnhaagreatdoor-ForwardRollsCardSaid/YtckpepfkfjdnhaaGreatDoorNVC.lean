/-
  Walk: a content is rolled forward, by the program. Conditions: the arguments lie in memory; they are small; the laid table.
  Walk: a content is rolled forward, by the program. Conditions: the arguments lie in memory; they are small; the laid table.
  Walk: a content is rolled forward, by the reference. Conditions: the arguments lie in memory; they are small.
-/
import Derived.Test.YtckpepfkfjdnhaaGreatDoorNVB
import Derived.Test.YtckpepfkfjdnhaaGreatDoorNW
import Derived.Test.YtckpepfkfjdnhaaGreatDoorNJ46
namespace Go.Proofs.YtckpepfkfjdnhaaGreatDoor

section
open Go.RowKit Go.Sort
variable {z : Rest}

/-- All changes of a data set, numbered. -/
def allN (id : Int) (R : List Lr) : List Nu := R.flatMap fun r => ofF id r.num r.l
theorem allN_take {id : Int} {R : List Lr} {j : Nat} (hj : j < R.length) : allN id (R.take (j + 1)) = allN id (R.take j) ++ ofF id R[j].num R[j].l := by
 unfold allN; rw [List.take_succ_eq_append_getElem hj, List.flatMap_append]; simp
theorem ofF_mem (id : Int) : ∀ (n : Int) (l : List Ch) (x : Nu), x ∈ ofF id n l → ∃ i, ∃ (h : i < l.length), x = (n + i, l[i])
 | _, [], x, h => by cases h
 | n, c :: l, x, h => by
   rw [ofF] at h
   have key : x ∈ ofF id (n + 1) l → ∃ i, ∃ (h : i < (c :: l).length), x = (n + i, (c :: l)[i]) := fun h => by
     obtain ⟨i, hi, e⟩ := ofF_mem id (n + 1) l x h
     exact ⟨i + 1, by simp; omega, by rw [e]; simp; omega⟩
   split at h
   · rcases List.mem_cons.1 h with rfl | h
     · exact ⟨0, by simp, by simp⟩
     · exact key h
   · exact key h
theorem ofF_ok {id : Int} {x : Lr} (hv : validR x = true) : ∀ y ∈ ofF id x.num x.l, NuOk y := by
 intro y hy
 unfold validR at hv
 simp only [Bool.and_eq_true] at hv
 obtain ⟨⟨_, _, h1, h2⟩, h3⟩ := sound_of hv.1
 obtain ⟨i, hi, rfl⟩ := ofF_mem id x.num x.l y hy
 exact ⟨h3 _ (List.getElem_mem hi), by simp only; omega, by simp only; omega⟩
theorem allN_ok {id : Int} {R : List Lr} (h : R.all validR = true) : ∀ y ∈ allN id R, NuOk y := by
 intro y hy
 unfold allN at hy
 obtain ⟨r, hr, hy⟩ := List.mem_flatMap.1 hy
 exact ofF_ok (List.all_eq_true.1 h r hr) y hy
theorem allN_len {id : Int} : ∀ {R : List Lr}, (∀ x ∈ R, x.l.length ≤ 10) → (allN id R).length ≤ R.length * 10
 | [], _ => by simp [allN]
 | x :: R, h => by
   have h1 := ofF_len id x.num x.l
   have h2 := h x (by simp)
   have h3 := allN_len (id := id) (R := R) (fun y hy => h y (by simp [hy]))
   unfold allN at h3 ⊢
   rw [List.flatMap_cons, List.length_append, List.length_cons]; omega
/-- A content that is rolled, in its block, and an empty result in the next one. -/
structure RlSt (w W : World) (z : Rest) (org fmt len blk ap : Int) (l : List Pr) : Prop where
 con : ∃ a c, W.heap[w.heap.size]? = some (.cells (conC z org fmt len blk ap a l.length c) 26 (0, 0)) ∧ l.length ≤ c ∧ c ≤ maxLen ∧ Prs W W.heap.size a l ∧ ∀ p, a = some p → w.heap.size + 1 < p.block
 res : W.heap[w.heap.size + 1]? = some (.cells conZ 26 (0, 0))
 bel : Below w.heap.size w W
theorem RlSt.below {w W W' : World} {org fmt len blk ap : Int} {l : List Pr} (h : RlSt w W z org fmt len blk ap l) (hb : Below W.heap.size W W') : RlSt w W' z org fmt len blk ap l := by
 obtain ⟨a, c, h1, h2, h3, h4, h5⟩ := h.con
 exact ⟨⟨a, c, heap_below hb (lt_of_block h1) h1, h2, h3, (h4.below hb).mono hb.size, h5⟩, heap_below hb (lt_of_block h.res) h.res, h.bel.trans (hb.mono h.bel.size)⟩
/-- The content, written anew. -/
theorem rl_put {w W : World} {old : Array Value} {org fmt len blk ap : Int} {a : Option Addr} {c : Nat} {l : List Pr} (hc : W.heap[w.heap.size]? = some (.cells old 26 (0, 0))) (ho : old.size = 23) (hr : W.heap[w.heap.size + 1]? = some (.cells conZ 26 (0, 0))) (hb : Below w.heap.size w W)
   (hP : Prs W W.heap.size a l) (hf : ∀ p, a = some p → w.heap.size + 1 < p.block) (h2 : l.length ≤ c) (h3 : c ≤ maxLen) :
   ∃ W', (storeCo ⟨w.heap.size, 0, none⟩ (.agg (conC z org fmt len blk ap a l.length c))).run Tryz.prog W = .ok () W' ∧ RlSt w W' z org fmt len blk ap l ∧ ∀ k, k ≠ w.heap.size → k < W.heap.size → W'.heap[k]? = W.heap[k]? := by
 have hP' := prs_setRow (g := w.heap.size) hP (fun p hp => by have := hf p hp; omega) (conC z org fmt len blk ap a l.length c)
 refine ⟨_, storeCo_at hc rfl ho one_con, ⟨⟨a, c, setRow_heap _ _ _ _ _ _ hc, h2, h3, ?_, hf⟩, ?_, below_setRow hb (Nat.le_refl _) _⟩, fun k hk hl => heap_setRow_other' _ _ hl hk⟩
 · simpa using hP'
 · exact (heap_setRow_other' _ _ (lt_of_block hr) (by omega)).trans hr
end

section
open Go.RowKit Go.Sort
variable {z : Rest}

/-- A content after the changes of records. -/
def rollV (z : Rest) (org fmt len blk ap : Int) (l : List Pr) (R : List Lr) : Int × Int × List Pr :=
 if valP z org fmt len blk ap l = false ∨ R.all validR = false then (1, 0, []) else rollF z org fmt len ap l (allN z.id R)
/-- A refusal: the empty content and an error, out of the result's block. -/
theorem roll_no {w W : World} {org fmt len blk : Int} {r : Int × Int × List Pr} (hr : r.1 ≠ 0) (hb : Below w.heap.size w W) (hz : W.heap[w.heap.size + 1]? = some (.cells conZ 26 (0, 0))) :
   ∃ W', (storeCo ⟨w.heap.size + 1, 0, none⟩ (.agg conZ)).run Tryz.prog W = .ok () W' ∧ (loadCo ⟨w.heap.size + 1, 0, none⟩).run Tryz.prog W' = .ok (.agg conZ) W' ∧ DoRet z org fmt len blk none w r (.returned (.tuple #[.agg conZ, .int .i64 r.1])) W' :=
 ⟨_, storeCo_at hz rfl rfl (by simp [Value.oneCell']), loadCo_at (setRow_heap _ _ _ _ _ _ hz) rfl, ⟨⟨_, rfl, fun h => absurd h hr, fun _ => rfl⟩, below_setRow hb (by omega) _⟩⟩

def storeNum (p : Addr) (v : Value) : Sem Unit := storeVar 30 p v
theorem storeNum_down (p : Addr) (v : Value) : storeVar 30 p v = storeNum p v := rfl
theorem storeNum_at {w : World} {g : Nat} {cs : Array Value} {t : TypeId} {old : Array Value} (hg : w.heap[g]? = some (.cells old t (0, 0))) (hi : cs.size = 6) (ho : old.size = 6) (h1 : cs.all (·.oneCell') = true) : (storeNum ⟨g, 0, none⟩ (.agg cs)).run Tryz.prog w = .ok () (w.setRow g cs) :=
 run_storeVar_row (P := Tryz.prog) w g t 30 old cs hg (by rw [info_num, hi]) (by rw [ho, hi]) h1
theorem two_cons0 (w : World) (x y : Array Value) : ∃ W, W = (w.alloc (.cells x 26)).alloc (.cells y 26) ∧ W.heap[w.heap.size]? = some (.cells x 26 (0, 0)) ∧ W.heap[w.heap.size + 1]? = some (.cells y 26 (0, 0)) ∧ Below w.heap.size w W := by
 have h1 := heap_alloc_new w (.cells x 26)
 have h2 := heap_alloc_new (w.alloc (.cells x 26)) (.cells y 26)
 rw [show (w.alloc (.cells x 26)).heap.size = w.heap.size + 1 by simp] at h2
 have h3 := (halloc (w.alloc (.cells x 26)) (.cells y 26) (by simp)).trans h1
 have hb1 := box_below0 w x 26
 exact ⟨_, rfl, h3, h2, hb1.trans ((box_below0 _ y 26).mono hb1.size)⟩

/-- A numbered change in a block of its own. -/
theorem put_nu (w : World) (y : Nu) : ∃ W, (storeNum ⟨w.heap.size, 0, none⟩ (.agg (nuC y))).run Tryz.prog (w.alloc (.cells #[.int .i64 0, .int .i64 0, .int .i64 0, .string ⟨#[]⟩, .string ⟨#[]⟩, .string ⟨#[]⟩] 30)) = .ok () W ∧ W.heap[w.heap.size]? = some (.cells (nuC y) 30 (0, 0)) ∧ Below w.heap.size w W := by
 have hz := heap_alloc_new w (.cells #[.int .i64 0, .int .i64 0, .int .i64 0, .string ⟨#[]⟩, .string ⟨#[]⟩, .string ⟨#[]⟩] 30)
 exact ⟨_, storeNum_at hz rfl rfl (by simp [Value.oneCell']), setRow_heap _ _ _ _ _ _ hz, below_setRow (box_below0 w _ 30) (Nat.le_refl _) _⟩
theorem nurow_keep {w w' : World} {base : Nat} {v : Value} {l : List Nu} (h : NuRow w base v l) (hk : ∀ (g : Nat), base ≤ g → g < w.heap.size → w'.heap[g]? = w.heap[g]?) : NuRow w' base v l := by
 refine ⟨h.1, ?_⟩
 rcases h.2 with h0 | ⟨g, cap, cur, h1, h2, h3, h4⟩
 · exact Or.inl h0
 · exact Or.inr ⟨g, cap, cur, h1, h2, (hk g h2 (lt_of_block h3)).trans h3, h4⟩
theorem roll_one {org fmt len ap ap' : Int} {l l' : List Pr} {m : List Nu} {y : Nu} (h : rollF z org fmt len ap l m = (0, ap', l')) : rollF z org fmt len ap l (m ++ [y]) =
   if (doL z org fmt len ap' l' y.1 y.2.kind y.2.id y.2.key y.2.dat).1 ≠ 0 then ((doL z org fmt len ap' l' y.1 y.2.kind y.2.id y.2.key y.2.dat).1, 0, [])
   else (0, (doL z org fmt len ap' l' y.1 y.2.kind y.2.id y.2.key y.2.dat).2.1, (doL z org fmt len ap' l' y.1 y.2.kind y.2.id y.2.key y.2.dat).2.2) := by
 rw [roll_snoc, h, if_neg (by simp)]
 rfl

section
attribute [local go_sem ↓] loadCo_down storeCo_down loadNum_down storeNum_down loadLr_down storeLr_down
set_option maxRecDepth 100000 in
set_option maxHeartbeats 8000000 in
theorem froll_any (w : World) (a : Option Addr) (cap : Nat) (l : List Pr) (org fmt len blk ap : Int) (ra : Option Addr) (rcap : Nat) (R : List Lr) (hP : Prs w w.heap.size a l) (hR : Recs w w.heap.size ra R) (hl : l.length ≤ 600) (hvo : z.vol.length ≤ 9223372036854775807) (how : z.own.length ≤ 9223372036854775807) (hc0 : Codes w)
   (hkl : ∀ p ∈ l, p.1.length ≤ 100000 ∧ p.2.length ≤ 100000) (hRn : R.length ≤ 6) (hx : ∀ x ∈ R, x.l.length ≤ 10 ∧ ∀ c ∈ x.l, ChLen c) :
   Calls Tryz.prog 22 #[.agg (conC z org fmt len blk ap a l.length cap), .slice ra R.length rcap] w (DoRet z org fmt len blk none w (rollV z org fmt len blk ap l R)) := by
 obtain ⟨W0, hW0, hs1, hs2, hb0⟩ := two_cons0 w (conC z org fmt len blk ap a l.length cap) conZ
 have HW := Lib.hid hW0
 have HC1 := Lib.hid hs1
 have HC2 := Lib.hid hs2
 have HB0 := Lib.hid hb0
 have HP := Lib.hid hP
 have HR := Lib.hid hR
 have HC := Lib.hid hc0
 have lc := loadCo_at hs1 rfl
 have HV := Lib.hid (fvalid_any (z := z) W0 w.heap.size a cap l org fmt len blk ap (hP.below hb0) hb0.size (by omega) hvo how (hc0.below hb0 hc0.pos) hkl)
 have HQ := Lib.hid (show rollV z org fmt len blk ap l R = if valP z org fmt len blk ap l = false ∨ R.all validR = false then (1, 0, []) else rollF z org fmt len ap l (allN z.id R) from rfl)
 generalize rollV z org fmt len blk ap l R = r at HQ ⊢
 clear hW0 hs1 hs2 hb0 hP hR hc0
 cases hv : valP z org fmt len blk ap l with
 | false =>
   rw [hv] at HV
   have HQ1 := Lib.hid (show r = (1, 0, []) by rw [HQ.out, if_pos (Or.inl hv)])
   go_enter Tryz.func22, Tryz.ntmps22
   go_upto_region 1 with fail
   rw [← HW.out]
   go_wp2_with fail
   refine HV.out.mono ?_
   rintro e w1 ⟨rfl, hb1⟩
   obtain ⟨W', hst, hld, hret⟩ := roll_no (z := z) (w := w) (W := w1) (org := org) (fmt := fmt) (len := len) (blk := blk) (r := (1, 0, [])) (by decide) (HB0.out.trans (hb1.mono HB0.out.size)) (heap_below hb1 (lt_of_block HC2.out) HC2.out)
   have HRET := Lib.hid hret
   clear hb1 hret lc
   go_wp2_with fail
   refine ret_cell_tmp rfl rfl rfl rfl hld ?_
   rw [HQ1.out]; exact HRET.out
 | true =>
   rw [hv] at HV
   have HVL := Lib.hid hv
   have HBD := Lib.hid (fun (W : World) (hb : Below w.heap.size w W) => badrec_any W w.heap.size ra rcap R (HR.out.below hb) hb.size (by omega) (fun x hxm => ⟨by have := (hx x hxm).1; omega, (hx x hxm).2⟩))
   cases ha : R.all validR with
   | false =>
     rw [ha] at HBD
     have HQ1 := Lib.hid (show r = (1, 0, []) by rw [HQ.out, if_pos (Or.inr ha)])
     clear ha hv
     go_enter Tryz.func22, Tryz.ntmps22
     go_upto_region 1 with fail
     rw [← HW.out]
     go_wp2_with fail
     refine HV.out.mono ?_
     rintro e w1 ⟨rfl, hb1⟩
     have HB1 := Lib.hid (HB0.out.trans (hb1.mono HB0.out.size))
     have HD1 := Lib.hid (heap_below hb1 (lt_of_block HC2.out) HC2.out)
     clear hb1 lc
     go_wp2_with fail
     refine (HBD.out w1 HB1.out).mono ?_
     rintro e w2 ⟨rfl, hb2⟩
     obtain ⟨W', hst, hld, hret⟩ := roll_no (z := z) (w := w) (W := w2) (org := org) (fmt := fmt) (len := len) (blk := blk) (r := (1, 0, [])) (by decide) (HB1.out.trans (hb2.mono HB1.out.size)) (heap_below hb2 (lt_of_block HD1.out) HD1.out)
     have HRET := Lib.hid hret
     clear hb2 hret
     go_wp2_with fail
     refine ret_cell_tmp rfl rfl rfl rfl hld ?_
     rw [HQ1.out]; exact HRET.out
   | true =>
     rw [ha] at HBD
     have HALL := Lib.hid ha
     have HQ1 := Lib.hid (show r = rollF z org fmt len ap l (allN z.id R) by rw [HQ.out, if_neg (by rw [hv, ha]; decide)])
     clear ha hv
     go_enter Tryz.func22, Tryz.ntmps22
     go_upto_region 1 with fail
     rw [← HW.out]
     go_wp2_with fail
     refine HV.out.mono ?_
     rintro e w1 ⟨rfl, hb1⟩
     have HB1 := Lib.hid (HB0.out.trans (hb1.mono HB0.out.size))
     have HD0 := Lib.hid (heap_below hb1 (lt_of_block HC1.out) HC1.out)
     have HD1 := Lib.hid (heap_below hb1 (lt_of_block HC2.out) HC2.out)
     clear hb1 lc
     go_wp2_with fail
     refine (HBD.out w1 HB1.out).mono ?_
     rintro e w2 ⟨rfl, hb2⟩
     have HB2 := Lib.hid (HB1.out.trans (hb2.mono HB1.out.size))
     have HE0 := Lib.hid (heap_below hb2 (lt_of_block HD0.out) HD0.out)
     have HE1 := Lib.hid (heap_below hb2 (lt_of_block HD1.out) HD1.out)
     have c22 := cell_at (i := 22) (v := .slice a l.length cap) HE0.out rfl
     have HCL := Lib.hid (clone_any w2 w.heap.size a cap l (HP.out.below HB2.out) HB2.out.size (by omega))
     clear hb2
     go_wp2_with fail
     refine HCL.out.mono ?_
     rintro e w3 ⟨v3, rfl, ho3, hb3⟩
     obtain ⟨a3, c3, rfl, hl3, hm3, hp3⟩ := prs_of_row ho3
     have hs3 : ∀ k, (Value.slice a3 l.length c3).ownBlock = some k → w2.heap.size ≤ k := fun k hk => row_own ho3 hk
     have hE0 := heap_below hb3 (lt_of_block HE0.out) HE0.out
     have hE1 := heap_below hb3 (lt_of_block HE1.out) HE1.out
     have f22 := frozen_of_row _ _ 22 _ _ hE0
     have d22 := cell_at (i := 22) (v := .slice a l.length cap) hE0 rfl
     obtain ⟨w4, hw4⟩ : ∃ w4, w4 = w3.setCell ⟨w.heap.size, 22, none⟩ (.slice a3 l.length c3) := ⟨_, rfl⟩
     have hx4 : w4.heap[w.heap.size]? = some (.cells (conC z org fmt len blk ap a3 l.length c3) 26 (0, 0)) := by rw [hw4]; exact heap_setCell_same _ _ 22 _ _ _ hE0
     have hz4 : w4.heap[w.heap.size + 1]? = some (.cells conZ 26 (0, 0)) := by rw [hw4, heap_setCell_other _ _ _ _ (by simp)]; exact hE1
     have hb4 : Below w.heap.size w w4 := by rw [hw4]; exact (HB2.out.trans (hb3.mono HB2.out.size)).setCell (Nat.le_refl _) _
     have hfr : ∀ p, a3 = some p → w.heap.size + 1 < p.block := fun p hp => by
       have h1 := hs3 p.block (by rw [hp]; rfl)
       have h2 := lt_of_block HE1.out
       omega
     have hP4 : Prs w4 w4.heap.size a3 l := by
       rw [hw4]
       refine ⟨fun hne => ?_⟩
       obtain ⟨b, off, e1, e2, e3⟩ := hp3.cells hne
       refine ⟨b, off, e1, by simpa using e2, fun i hi => ?_⟩
       have hbb : w.heap.size + 1 < b := by have := hfr _ e1; exact this
       obtain ⟨k1, k2⟩ := e3 i hi
       have hne' : b ≠ w.heap.size := by omega
       exact ⟨by rw [World.cell?_setCell_far _ _ _ _ (Ne.symm hne')]; exact k1, by rw [World.cell?_setCell_far _ _ _ _ (Ne.symm hne')]; exact k2⟩
     have HST := Lib.hid (show RlSt w w4 z org fmt len blk ap l from ⟨⟨a3, c3, hx4, hl3, hm3, hP4, hfr⟩, hz4, hb4⟩)
     have HW4 := Lib.hid hw4
     clear ho3 hb3 hl3 hm3 hp3 hs3 hE0 hE1 hx4 hz4 hb4 hfr hP4 c22
     go_wp2_with fail
     rw [← HW4.out]
     clear f22 d22
     go_loopw [25] (fun k wr => ∃ (j : Nat) (ap' : Int) (l' : List Pr), j ≤ R.length ∧ k = .int .i64 j ∧ rollF z org fmt len ap l (allN z.id (R.take j)) = (0, ap', l') ∧ RlSt w wr z org fmt len blk ap' l') (fun k _ => R.length - (intOf k).toNat)
     case atStart => exact ⟨0, ap, l, by omega, rfl, rfl, HST.out⟩
     case round =>
       obtain ⟨j, ap1, l1, hj, rfl, hrl, hst⟩ := hrel
       have HRL := Lib.hid hrl
       have HSJ := Lib.hid hst
       clear hrl hst
       by_cases hlt : j < R.length
       · have jI : (j : Int) < (R.length : Int) := by omega
         obtain ⟨b, off, rfl, hbb, hat⟩ := HR.out.get hlt
         have ld := (hat.below HSJ.out.bel hbb).load
         have HCX := Lib.hid (HR.out.chs _ (List.getElem_mem hlt)).1
         have HXX := Lib.hid (hx _ (List.getElem_mem hlt))
         have HVX := Lib.hid (List.all_eq_true.1 HALL.out _ (List.getElem_mem hlt))
         have HTJ := Lib.hid (allN_take (id := z.id) hlt)
         have HOK0 := Lib.hid (show ∀ y ∈ allN z.id (R.take j), NuOk y from allN_ok (by rw [List.all_eq_true]; exact fun x hxm => List.all_eq_true.1 HALL.out x (List.mem_of_mem_take hxm)))
         have HLN0 := Lib.hid (show (allN z.id (R.take j)).length ≤ 60 by
           have := allN_len (id := z.id) (R := R.take j) (fun x hxm => (hx x (List.mem_of_mem_take hxm)).1)
           rw [List.length_take] at this; omega)
         clear hat
         generalize R[j] = x at ld HCX HXX HVX HTJ
         obtain ⟨num, unit, xa, xc, L⟩ := x
         have HOK1 := Lib.hid (ofF_ok (id := z.id) HVX.out)
         have hsn := (sound_of (by have := HVX.out; unfold validR at this; simp only [Bool.and_eq_true] at this; exact this.1 : soundP ⟨num, unit, xa, xc, L⟩ = true)).1
         simp only at HCX HXX HTJ HOK1 hsn
         obtain ⟨w5, hst5, hw5, hb5⟩ := put_lr wr ⟨num, unit, xa, xc, L⟩
         have HS5 := Lib.hid (HSJ.out.below hb5)
         have lr5 := loadLr_at hw5 rfl
         obtain ⟨a5, c5, hc5, _⟩ := HS5.out.con
         have i5 := cell_at (i := 0) (v := .int .i64 z.id) hc5 rfl
         have HOF := Lib.hid (of_any w5 w.heap.size num unit xa xc L z.id (HCX.out.below HS5.out.bel) HS5.out.bel.size (by have := HXX.out.1; omega) hsn.2.2.1 (by omega))
         have HML := Lib.hid (show ∀ y ∈ ofF z.id num L, ChLen y.2 from fun y hy => by
           obtain ⟨i, hi, rfl⟩ := ofF_mem z.id num L y hy
           exact HXX.out.2 _ (List.getElem_mem hi))
         have hml := ofF_len z.id num L
         have HMN := Lib.hid (show (ofF z.id num L).length ≤ 10 by have := HXX.out.1; omega)
         clear hw5 hb5 hc5 hsn hml
         generalize ofF z.id num L = m at HTJ HOK1 HOF HML HMN
         go_wp2_with fail
         refine HOF.out.mono ?_
         rintro e w6 ⟨v6, rfl, ho6, hb6⟩
         obtain ⟨a6, c6, rfl, _⟩ := nus_of_row ho6
         have HS6 := Lib.hid (HS5.out.below hb6)
         have HO6 := Lib.hid ho6
         have HG6 := Lib.hid (show w.heap.size < w5.heap.size from by obtain ⟨_, _, h, _⟩ := HS5.out.con; exact lt_of_block h)
         clear ho6 hb6 ld hst5 lr5 i5
         go_wp2_with fail
         go_loopw [35] (fun k wr => ∃ (i : Nat) (ap2 : Int) (l2 : List Pr), i ≤ m.length ∧ k = .int .i64 i ∧ rollF z org fmt len ap l (allN z.id (R.take j) ++ m.take i) = (0, ap2, l2) ∧ RlSt w wr z org fmt len blk ap2 l2 ∧ NuRow wr w5.heap.size (.slice a6 m.length c6) m) (fun k _ => m.length - (intOf k).toNat)
         case atStart => exact ⟨0, ap1, l1, by omega, rfl, by rw [List.take_zero, List.append_nil]; exact HRL.out, HS6.out, HO6.out⟩
         case round =>
           obtain ⟨i, ap2, l2, hi, rfl, hri, hsi, hoi⟩ := hrel
           have HRI := Lib.hid hri
           have HSI := Lib.hid hsi
           have HOI := Lib.hid hoi
           clear hri hsi hoi
           by_cases hil : i < m.length
           · have iI : (i : Int) < (m.length : Int) := by have := HMN.out; omega
             have iB : i ≤ 10 := by have := HMN.out; omega
             obtain ⟨a9, c9, he9, hn9⟩ := nus_of_row HOI.out
             injection he9 with he9 _ he9c
             subst he9 he9c
             obtain ⟨b6, off6, rfl, hb66, ldn⟩ := hn9.get hil
             have HTI := Lib.hid (show allN z.id (R.take j) ++ m.take (i + 1) = (allN z.id (R.take j) ++ m.take i) ++ [m[i]] by rw [List.take_succ_eq_append_getElem hil, List.append_assoc])
             have HCI := Lib.hid (HML.out _ (List.getElem_mem hil))
             have HOKI := Lib.hid (HOK1.out _ (List.getElem_mem hil))
             have HVI := Lib.hid (show valP z org fmt len blk ap2 l2 = true by
               have := roll_valid (allN z.id (R.take j) ++ m.take i) ap l HVL.out (fun y hy => by
                 rcases List.mem_append.1 hy with hy | hy
                 · exact HOK0.out y hy
                 · exact HOK1.out y (List.mem_of_mem_take hy)) (by have := HLN0.out; have := HMN.out; rw [List.length_append, List.length_take]; omega) (by rw [HRI.out])
               rwa [HRI.out] at this)
             have hll2 : l2.length ≤ 800 := by
               have := roll_len (z := z) (org := org) (fmt := fmt) (len := len) (allN z.id (R.take j) ++ m.take i) ap l
               rw [HRI.out] at this
               have := HLN0.out; have := HMN.out
               rw [List.length_append, List.length_take] at *
               simp only at *
               omega
             have HREST := Lib.hid (show ∀ er : Int, er ≠ 0 → rollF z org fmt len ap l (allN z.id (R.take j) ++ m.take (i + 1)) = (er, 0, []) → r = (er, 0, []) from fun er her hh => by
               have e1 : allN z.id R = (allN z.id (R.take j) ++ m.take (i + 1)) ++ (m.drop (i + 1) ++ allN z.id (R.drop (j + 1))) := by
                 have : allN z.id R = allN z.id (R.take (j + 1)) ++ allN z.id (R.drop (j + 1)) := by unfold allN; rw [← List.flatMap_append, List.take_append_drop]
                 rw [this, HTJ.out, List.append_assoc, List.append_assoc]
                 congr 1
                 rw [← List.append_assoc, List.take_append_drop]
               rw [HQ1.out, e1, roll_err _ _ _ _ (by rw [hh]; exact her), hh])
             have HONE := Lib.hid (roll_one (y := m[i]) HRI.out)
             rw [← HTI.out] at HONE
             clear hn9 HTI
             generalize m[i] = y at ldn HCI HOKI HONE
             obtain ⟨n, ck, ci, key, dat, vol⟩ := y
             simp only at HCI HOKI HONE
             obtain ⟨w7, hst7, hw7, hb7⟩ := put_nu wr (n, ⟨ck, ci, key, dat, vol⟩)
             have HS7 := Lib.hid (HSI.out.below hb7)
             have HO7 := Lib.hid (show NuRow w7 w5.heap.size (.slice (some ⟨b6, off6, none⟩) m.length c6) m from own_below HOI.out hb7)
             have ln7 := loadNum_at hw7 rfl
             obtain ⟨a7, c7, hc7, hl7, hm7, hp7, hf7⟩ := HS7.out.con
             have lc7 := loadCo_at hc7 rfl
             have HC7 := Lib.hid hc7
             have HF7 := Lib.hid hf7
             have HDO := Lib.hid (inner_any (z := z) w7 w7.heap.size a7 c7 l2 org fmt len blk ap2 n ck ci key dat vol hp7 (Nat.le_refl _) hl7 hm7 (by omega) (val_desc HVI.out) (HC.out.below HS7.out.bel HC.out.pos) (by have : key.length ≤ 50 := HCI.out.len.1; omega) (by have : dat.length ≤ 1200 := HCI.out.len.2.1; omega) (fun p hp => by
               have := (val_pairs HVI.out).1 p hp
               unfold prOk at this
               simp only [Bool.and_eq_true, decide_eq_true_eq] at this
               omega) HCI.out.k64)
             clear hw7 hb7 hc7 hl7 hm7 hp7 hf7
             generalize doL z org fmt len ap2 l2 n ck ci key dat = d at HDO HONE
             by_cases hd0 : d.1 = 0
             · have HON2 := Lib.hid (show rollF z org fmt len ap l (allN z.id (R.take j) ++ m.take (i + 1)) = (0, d.2.1, d.2.2) by rw [HONE.out, if_neg (by simpa using hd0)])
               go_wp2_with fail
               refine HDO.out.mono ?_
               rintro e w8 ⟨⟨cs, rfl, h1, _⟩, hb8⟩
               obtain ⟨a8, c8, rfl, hl8, hm8, hp8, hf8⟩ := h1 hd0
               have HS8 := Lib.hid (HS7.out.below hb8)
               obtain ⟨w9, hst9, hs9, ho9⟩ := rl_put (z := z) (w := w) (W := w8) (org := org) (fmt := fmt) (len := len) (blk := blk) (ap := d.2.1) (heap_below hb8 (lt_of_block HC7.out) HC7.out) rfl HS8.out.res HS8.out.bel hp8 (fun p hp => by
                 rcases hf8 p hp with h | h
                 · rw [h] at hp; exact HF7.out p hp
                 · have := lt_of_block HS7.out.res; omega) hl8 hm8
               have HS9 := Lib.hid hs9
               have HO9 := Lib.hid (nurow_keep (own_below HO7.out hb8) (fun g hg hlg => ho9 g (by have := HG6.out; omega) hlg))
               clear h1 hb8 hl8 hm8 hp8 hf8 hs9 ho9 ldn lc7 ln7 hst7
               rw [hd0]
               go_wp2_with fail
               go_roundw
               case rel => first | exact ⟨i + 1, d.2.1, d.2.2, by omega, by go_num, HON2.out, HS9.out, HO9.out⟩ | exact ⟨_, _, _, .int .i64 ((i + 1 : Nat) : Int), _, _, _, _, _, _, _, _, _, _, _, _, _, _, ⟨i + 1, d.2.1, d.2.2, by omega, rfl, HON2.out, HS9.out, HO9.out⟩, rfl⟩
               case measure => simp [intOf]; omega
             · have HQ2 := Lib.hid (show r = (d.1, 0, []) from HREST.out d.1 hd0 (by rw [HONE.out, if_pos hd0]))
               go_wp2_with fail
               refine HDO.out.mono ?_
               rintro e w8 ⟨⟨cs, rfl, _, h2⟩, hb8⟩
               rw [h2 hd0]
               have HS8 := Lib.hid (HS7.out.below hb8)
               have hc8 := heap_below hb8 (lt_of_block HC7.out) HC7.out
               have hst8 := storeCo_at (cs := conZ) hc8 rfl rfl (by simp [Value.oneCell'])
               have hr8 : (w8.setRow w.heap.size conZ).heap[w.heap.size + 1]? = some (.cells conZ 26 (0, 0)) := (heap_setRow_other' _ _ (lt_of_block HS8.out.res) (by omega)).trans HS8.out.res
               obtain ⟨W', hst9, hld9, hret⟩ := roll_no (z := z) (w := w) (W := w8.setRow w.heap.size conZ) (org := org) (fmt := fmt) (len := len) (blk := blk) (r := (d.1, 0, [])) hd0 (below_setRow HS8.out.bel (Nat.le_refl _) _) hr8
               have HRET := Lib.hid hret
               clear h2 hb8 hc8 hr8 hret ldn lc7 ln7 hst7
               go_wp2_with fail
               refine ret_cell_tmp rfl rfl rfl rfl hld9 ?_
               rw [HQ2.out]; exact HRET.out
           · have iI : ¬ (i : Int) < (m.length : Int) := by omega
             have HNX := Lib.hid (show rollF z org fmt len ap l (allN z.id (R.take (j + 1))) = (0, ap2, l2) by
               rw [HTJ.out]; have := HRI.out; rwa [show m.take i = m from List.take_of_length_le (by omega)] at this)
             go_wp2_with fail
             go_roundw
             case rel => exact ⟨j + 1, ap2, l2, by omega, by go_num, HNX.out, HSI.out⟩
             case measure => simp [intOf]; omega
       · have jI : ¬ (j : Int) < (R.length : Int) := by omega
         have HQ2 := Lib.hid (show r = (0, ap1, l1) by
           rw [HQ1.out]; have := HRL.out; rwa [List.take_of_length_le (by omega)] at this)
         obtain ⟨a7, c7, hc7, hl7, hm7, hp7, hf7⟩ := HSJ.out.con
         have lc7 := loadCo_at hc7 rfl
         have hst9 := storeCo_at (cs := conC z org fmt len blk ap1 a7 l1.length c7) HSJ.out.res rfl rfl one_con
         have hld9 := loadCo_at (setRow_heap _ _ _ (conC z org fmt len blk ap1 a7 l1.length c7) _ _ HSJ.out.res) rfl
         have HRET := Lib.hid (show DoRet z org fmt len blk none w (0, ap1, l1) (.returned (.tuple #[.agg (conC z org fmt len blk ap1 a7 l1.length c7), .int .i64 0])) (wr.setRow (w.heap.size + 1) (conC z org fmt len blk ap1 a7 l1.length c7)) from
           ⟨⟨_, rfl, fun _ => ⟨a7, c7, rfl, hl7, hm7, by
             have := prs_setRow (g := w.heap.size + 1) hp7 (fun p hp => ?_) (conC z org fmt len blk ap1 a7 l1.length c7)
             · simpa using this
             · have := hf7 p hp; omega, fun p hp => Or.inr (by have := hf7 p hp; omega)⟩, fun h => absurd rfl h⟩, below_setRow HSJ.out.bel (by omega) _⟩)
         clear hc7 hl7 hm7 hp7 hf7
         go_wp2_with fail
         refine ret_cell_tmp rfl rfl rfl rfl hld9 ?_
         rw [HQ2.out]; exact HRET.out
end
end

section
open Go.RowKit Go.Sort
variable {z : Rest}

set_option maxRecDepth 100000 in
theorem Nus.get_all {w : World} {B : Nat} {a : Option Addr} {l : List Nu} (h : Nus w B a l) {i : Nat} (hi : i < l.length) : ∃ b off, a = some ⟨b, off, none⟩ ∧ b < B ∧ ∀ W, Below B w W → (loadNum ⟨b, off + i * 6, none⟩).run Tryz.prog W = .ok (.agg (nuC l[i])) W := by
 obtain ⟨b, off, h1, h2, _⟩ := h.get hi
 refine ⟨b, off, h1, h2, fun W hb => ?_⟩
 obtain ⟨b', off', k1, _, k3⟩ := (h.below hb).get hi
 rw [h1] at k1
 injection k1 with k1
 injection k1 with k1 k2 _
 subst k1 k2
 exact k3
theorem prs_setRow2 {w : World} {B g : Nat} {a : Option Addr} {l : List Pr} (h : Prs w B a l) (hf : l ≠ [] → ∀ p, a = some p → p.block ≠ g) (cs : Array Value) : Prs (w.setRow g cs) B a l := by
 by_cases hn : l = []
 · subst hn; exact prs_nil _ _ _
 · exact prs_setRow (g := g) h (hf hn) cs
/-- A content that is rolled by the reference, in its block, and an empty result in the next one. -/
structure RlSa (w W : World) (z : Rest) (org fmt len blk ap : Int) (l : List Pr) (a0 : Option Addr) : Prop where
 con : ∃ a c, W.heap[w.heap.size]? = some (.cells (conC z org fmt len blk ap a l.length c) 26 (0, 0)) ∧ l.length ≤ c ∧ c ≤ maxLen ∧ Prs W W.heap.size a l ∧ (l ≠ [] → ∀ p, a = some p → p.block ≠ w.heap.size ∧ p.block ≠ w.heap.size + 1) ∧ ∀ p, a = some p → a = a0 ∨ w.heap.size ≤ p.block
 res : W.heap[w.heap.size + 1]? = some (.cells conZ 26 (0, 0))
 bel : Below w.heap.size w W
theorem RlSa.below {w W W' : World} {org fmt len blk ap : Int} {l : List Pr} {a0 : Option Addr} (h : RlSa w W z org fmt len blk ap l a0) (hb : Below W.heap.size W W') : RlSa w W' z org fmt len blk ap l a0 := by
 obtain ⟨a, c, h1, h2, h3, h4, h5, h6⟩ := h.con
 exact ⟨⟨a, c, heap_below hb (lt_of_block h1) h1, h2, h3, (h4.below hb).mono hb.size, h5, h6⟩, heap_below hb (lt_of_block h.res) h.res, h.bel.trans (hb.mono h.bel.size)⟩
/-- The content, written anew. -/
theorem ra_put {w W : World} {old : Array Value} {org fmt len blk ap : Int} {a a0 : Option Addr} {c : Nat} {l : List Pr} (hc : W.heap[w.heap.size]? = some (.cells old 26 (0, 0))) (ho : old.size = 23) (hr : W.heap[w.heap.size + 1]? = some (.cells conZ 26 (0, 0))) (hb : Below w.heap.size w W)
   (hP : Prs W W.heap.size a l) (hf : l ≠ [] → ∀ p, a = some p → p.block ≠ w.heap.size ∧ p.block ≠ w.heap.size + 1) (hg : ∀ p, a = some p → a = a0 ∨ w.heap.size ≤ p.block) (h2 : l.length ≤ c) (h3 : c ≤ maxLen) :
   ∃ W', (storeCo ⟨w.heap.size, 0, none⟩ (.agg (conC z org fmt len blk ap a l.length c))).run Tryz.prog W = .ok () W' ∧ RlSa w W' z org fmt len blk ap l a0 ∧ ∀ k, k ≠ w.heap.size → k < W.heap.size → W'.heap[k]? = W.heap[k]? := by
 have hP' := prs_setRow2 (g := w.heap.size) hP (fun hn p hp => (hf hn p hp).1) (conC z org fmt len blk ap a l.length c)
 refine ⟨_, storeCo_at hc rfl ho one_con, ⟨⟨a, c, setRow_heap _ _ _ _ _ _ hc, h2, h3, ?_, hf, hg⟩, ?_, below_setRow hb (Nat.le_refl _) _⟩, fun k hk hl => heap_setRow_other' _ _ hl hk⟩
 · simpa using hP'
 · exact (heap_setRow_other' _ _ (lt_of_block hr) (by omega)).trans hr
/-- What the reference's change of a valid content gives back. -/
structure RdRet (z : Rest) (org fmt len blk : Int) (a0 : Option Addr) (l0 : List Pr) (w : World) (r : Int × Int × List Pr) (e : Ending) (w' : World) : Prop where
 ex : ∃ cs, e = .returned (.tuple #[.agg cs, .int .i64 r.1]) ∧ (r.1 = 0 → ∃ a c, cs = conC z org fmt len blk r.2.1 a r.2.2.length c ∧ r.2.2.length ≤ c ∧ c ≤ maxLen ∧ Prs w' w'.heap.size a r.2.2 ∧ (∀ p, a = some p → a = a0 ∨ w.heap.size ≤ p.block) ∧ (r.2.2 ≠ [] → ∀ p, a = some p → (a = a0 ∧ l0 ≠ []) ∨ w.heap.size ≤ p.block)) ∧ (r.1 ≠ 0 → cs = conZ)
 bel : Below w.heap.size w w'
theorem rdo_roll (w : World) (B : Nat) (a : Option Addr) (cap : Nat) (l : List Pr) (org fmt len blk ap n kind id : Int) (key rec vol : By) (hP : Prs w B a l) (hB : B ≤ w.heap.size) (hlc : l.length ≤ cap) (hcm : cap ≤ maxLen) (hl : l.length ≤ 800) (hvo : z.vol.length ≤ 9223372036854775807) (how : z.own.length ≤ 9223372036854775807)
   (hk : key.length ≤ 100000) (hr : rec.length ≤ 100000) (hv : vol.length ≤ 1000000) (hkl : ∀ p ∈ l, p.1.length ≤ 100000 ∧ p.2.length ≤ 100000)
   (hva : valP z org fmt len blk ap l = true) (hc : chgP kind id key rec vol = true) (hn1 : 1 ≤ n) (hn2 : n ≤ 1099511627776) :
   Calls Tryz.prog 14 #[.agg (conC z org fmt len blk ap a l.length cap), .agg (numC n kind id key rec vol)] w (RdRet z org fmt len blk a l w (doL z org fmt len ap l n kind id key rec)) := by
 have he : rdoV z org fmt len blk ap l n kind id key rec vol = doL z org fmt len ap l n kind id key rec := by rw [← do_law hl, doV_doL hva hc hn1 hn2]
 rw [← he]
 by_cases hs : id ≠ z.id ∨ n ≤ ap
 · refine (rdo_any w B a cap l org fmt len blk ap n kind id key rec vol hP hB hlc hcm hl hvo how hk hr hv hkl).mono ?_
   rintro e w' ⟨⟨cs, h1, h2, h3⟩, hb⟩
   have hr2 : (rdoV z org fmt len blk ap l n kind id key rec vol).2.2 = l := by rw [he]; unfold doL; rw [if_pos hs]
   refine ⟨⟨cs, h1, fun h0 => ?_, h3⟩, hb⟩
   obtain ⟨a8, c8, k1, k2, k3, k4, k5⟩ := h2 h0
   refine ⟨a8, c8, k1, k2, k3, k4, k5, fun hne p hp => ?_⟩
   rcases k5 p hp with h | h
   · exact Or.inl ⟨h, by rw [← hr2]; exact hne⟩
   · exact Or.inr h
 · refine (rdo_new w B a cap l org fmt len blk ap n kind id key rec vol hP hB hlc hcm hl hvo how hk hr hv hkl ?_).mono ?_
   · rw [hva, hc]; simp; omega
   rintro e w' ⟨⟨cs, h1, h2, h3⟩, hb⟩
   refine ⟨⟨cs, h1, fun h0 => ?_, h3⟩, hb⟩
   obtain ⟨a8, c8, k1, k2, k3, k4, k5⟩ := h2 h0
   have k6 : ∀ p, a8 = some p → w.heap.size ≤ p.block := fun p hp => by
     rcases k5 p hp with h | h
     · rw [h] at hp; cases hp
     · exact h
   exact ⟨a8, c8, k1, k2, k3, k4, fun p hp => Or.inr (k6 p hp), fun _ p hp => Or.inr (k6 p hp)⟩

section
attribute [local go_sem ↓] loadCo_down storeCo_down loadNum_down storeNum_down loadLr_down storeLr_down
set_option maxRecDepth 100000 in
set_option maxHeartbeats 8000000 in
theorem rroll_any (w : World) (a : Option Addr) (cap : Nat) (l : List Pr) (org fmt len blk ap : Int) (ra : Option Addr) (rcap : Nat) (R : List Lr) (hP : Prs w w.heap.size a l) (hlc : l.length ≤ cap) (hcm : cap ≤ maxLen) (hR : Recs w w.heap.size ra R) (hl : l.length ≤ 600) (hvo : z.vol.length ≤ 9223372036854775807) (how : z.own.length ≤ 9223372036854775807) 
   (hkl : ∀ p ∈ l, p.1.length ≤ 100000 ∧ p.2.length ≤ 100000) (hRn : R.length ≤ 6) (hx : ∀ x ∈ R, x.l.length ≤ 10 ∧ ∀ c ∈ x.l, ChLen c) :
   Calls Tryz.prog 23 #[.agg (conC z org fmt len blk ap a l.length cap), .slice ra R.length rcap] w (DoRet z org fmt len blk a w (rollV z org fmt len blk ap l R)) := by
 obtain ⟨W0, hW0, hs1, hs2, hb0⟩ := two_cons0 w (conC z org fmt len blk ap a l.length cap) conZ
 have HW := Lib.hid hW0
 have HC1 := Lib.hid hs1
 have HC2 := Lib.hid hs2
 have HB0 := Lib.hid hb0
 have HP := Lib.hid hP
 have HR := Lib.hid hR
 have lc := loadCo_at hs1 rfl
 have HV := Lib.hid (r49valid_any (z := z) W0 w.heap.size a cap l org fmt len blk ap (hP.below hb0) hb0.size (by omega) hlc hvo how hkl)
 have HQ := Lib.hid (show rollV z org fmt len blk ap l R = if valP z org fmt len blk ap l = false ∨ R.all validR = false then (1, 0, []) else rollF z org fmt len ap l (allN z.id R) from rfl)
 generalize rollV z org fmt len blk ap l R = r at HQ ⊢
 clear hW0 hs1 hs2 hb0 hP hR
 cases hv : valP z org fmt len blk ap l with
 | false =>
   rw [hv] at HV
   have HQ1 := Lib.hid (show r = (1, 0, []) by rw [HQ.out, if_pos (Or.inl hv)])
   go_enter Tryz.func23, Tryz.ntmps23
   go_upto_region 1 with fail
   rw [← HW.out]
   go_wp2_with fail
   refine HV.out.mono ?_
   rintro e w1 ⟨rfl, hb1⟩
   obtain ⟨W', hst, hld, hret⟩ := roll_no (z := z) (w := w) (W := w1) (org := org) (fmt := fmt) (len := len) (blk := blk) (r := (1, 0, [])) (by decide) (HB0.out.trans (hb1.mono HB0.out.size)) (heap_below hb1 (lt_of_block HC2.out) HC2.out)
   have HRET := Lib.hid hret
   clear hb1 hret lc
   go_wp2_with fail
   refine ret_cell_tmp rfl rfl rfl rfl hld ?_
   rw [HQ1.out]; exact HRET.out.any
 | true =>
   rw [hv] at HV
   have HVL := Lib.hid hv
   clear hv
   go_enter Tryz.func23, Tryz.ntmps23
   go_upto_region 1 with fail
   rw [← HW.out]
   go_wp2_with fail
   refine HV.out.mono ?_
   rintro e w1 ⟨rfl, hb1⟩
   have HB1 := Lib.hid (HB0.out.trans (hb1.mono HB0.out.size))
   have HD0 := Lib.hid (heap_below hb1 (lt_of_block HC1.out) HC1.out)
   have HD1 := Lib.hid (heap_below hb1 (lt_of_block HC2.out) HC2.out)
   clear hb1 lc
   go_wp2_with fail
   go_loopw [6] (fun k wr => ∃ j : Nat, j ≤ R.length ∧ k = .int .i64 j ∧ (∀ x ∈ R.take j, validR x = true) ∧ Below w1.heap.size w1 wr) (fun k _ => R.length - (intOf k).toNat)
   case atStart => exact ⟨0, by omega, rfl, by simp, Below.refl _ _⟩
   case round =>
     obtain ⟨j, hj, rfl, hok, hb⟩ := hrel
     have HOK := Lib.hid hok
     have HBr := Lib.hid hb
     have HBw := Lib.hid (HB1.out.trans (hb.mono HB1.out.size))
     clear hok hb
     by_cases hlt : j < R.length
     · have jI : (j : Int) < (R.length : Int) := by omega
       obtain ⟨b, off, rfl, hbb, hat⟩ := HR.out.get hlt
       have ld := (hat.below HBw.out hbb).load
       have HVR := Lib.hid (rvalidr_any wr w.heap.size R[j] ((HR.out.chs _ (List.getElem_mem hlt)).1.below HBw.out) HBw.out.size (by have := (hx _ (List.getElem_mem hlt)).1; omega) (hx _ (List.getElem_mem hlt)).2)
       have HNY := Lib.hid (fun (hp : validR R[j] = true) => show ∀ x ∈ R.take (j + 1), validR x = true by
         intro x hxm
         rw [List.take_succ_eq_append_getElem hlt] at hxm
         rcases List.mem_append.1 hxm with hxm | hxm
         · exact HOK.out x hxm
         · obtain rfl := List.mem_singleton.1 hxm; exact hp)
       have HNN := Lib.hid (fun (hp : validR R[j] = false) => show r = (1, 0, []) by
         have ha : R.all validR = false := by rw [List.all_eq_false]; exact ⟨R[j], List.getElem_mem hlt, by rw [hp]; simp⟩
         rw [HQ.out, if_pos (Or.inr ha)])
       clear hat
       generalize R[j] = x at ld HVR HNY HNN
       cases hvx : validR x with
       | true =>
         rw [hvx] at HVR
         have HN2 := Lib.hid (HNY.out hvx)
         clear hvx
         go_wp2_with fail
         refine HVR.out.mono ?_
         rintro e w2 ⟨rfl, hb2⟩
         have HB2 := Lib.hid (HBr.out.trans (hb2.mono HBr.out.size))
         clear hb2 ld
         go_wp2_with fail
         go_roundw
         case rel => exact ⟨j + 1, by omega, by go_num, HN2.out, HB2.out⟩
         case measure => simp [intOf]; omega
       | false =>
         rw [hvx] at HVR
         have HN2 := Lib.hid (HNN.out hvx)
         clear hvx
         go_wp2_with fail
         refine HVR.out.mono ?_
         rintro e w2 ⟨rfl, hb2⟩
         obtain ⟨W', hst, hld, hret⟩ := roll_no (z := z) (w := w) (W := w2) (org := org) (fmt := fmt) (len := len) (blk := blk) (r := (1, 0, [])) (by decide) (HBw.out.trans (hb2.mono HBw.out.size)) (heap_below (HBr.out.trans (hb2.mono HBr.out.size)) (lt_of_block HD1.out) HD1.out)
         have HRET := Lib.hid hret
         clear hb2 hret ld
         go_wp2_with fail
         refine ret_cell_tmp rfl rfl rfl rfl hld ?_
         rw [HN2.out]; exact HRET.out.any
     · have jI : ¬ (j : Int) < (R.length : Int) := by omega
       have ha : R.all validR = true := by
         rw [List.all_eq_true]
         have := HOK.out
         rw [List.take_of_length_le (by omega)] at this
         exact this
       have HALL := Lib.hid ha
       have HQ1 := Lib.hid (show r = rollF z org fmt len ap l (allN z.id R) by rw [HQ.out, if_neg (by rw [HVL.out, ha]; decide)])
       have HST := Lib.hid (show RlSa w wr z org fmt len blk ap l a by
         refine RlSa.below ⟨⟨a, cap, HD0.out, hlc, hcm, (HP.out.below HB1.out).mono HB1.out.size, fun hne p hp => ?_, fun p _ => Or.inl rfl⟩, HD1.out, HB1.out⟩ HBr.out
         obtain ⟨b, off, e1, e2, _⟩ := HP.out.cells hne
         rw [e1] at hp; injection hp with hp; subst hp; simp only; omega)
       clear ha
       go_wp2_with fail
       go_loopw [7] (fun k wr => ∃ (j : Nat) (ap' : Int) (l' : List Pr), j ≤ R.length ∧ k = .int .i64 j ∧ rollF z org fmt len ap l (allN z.id (R.take j)) = (0, ap', l') ∧ RlSa w wr z org fmt len blk ap' l' a) (fun k _ => R.length - (intOf k).toNat)
       case atStart => exact ⟨0, ap, l, by omega, rfl, rfl, HST.out⟩
       case round =>
         obtain ⟨j, ap1, l1, hj, rfl, hrl, hst⟩ := hrel
         have HRL := Lib.hid hrl
         have HSJ := Lib.hid hst
         clear hrl hst
         by_cases hlt : j < R.length
         · have jI : (j : Int) < (R.length : Int) := by omega
           obtain ⟨b, off, rfl, hbb, hat⟩ := HR.out.get hlt
           have HCX := Lib.hid (HR.out.chs _ (List.getElem_mem hlt)).1
           have HXX := Lib.hid (hx _ (List.getElem_mem hlt))
           have HVX := Lib.hid (List.all_eq_true.1 HALL.out _ (List.getElem_mem hlt))
           have HTJ := Lib.hid (allN_take (id := z.id) hlt)
           have HOK0 := Lib.hid (show ∀ y ∈ allN z.id (R.take j), NuOk y from allN_ok (by rw [List.all_eq_true]; exact fun x hxm => List.all_eq_true.1 HALL.out x (List.mem_of_mem_take hxm)))
           have HLN0 := Lib.hid (show (allN z.id (R.take j)).length ≤ 60 by
             have := allN_len (id := z.id) (R := R.take j) (fun x hxm => (hx x (List.mem_of_mem_take hxm)).1)
             rw [List.length_take] at this; omega)
           have HAT := Lib.hid hat
           clear hat
           generalize R[j] = x at HAT HCX HXX HVX HTJ
           obtain ⟨num, unit, xa, xc, L⟩ := x
           have HOK1 := Lib.hid (ofF_ok (id := z.id) HVX.out)
           have hsn := (sound_of (by have := HVX.out; unfold validR at this; simp only [Bool.and_eq_true] at this; exact this.1 : soundP ⟨num, unit, xa, xc, L⟩ = true)).1
           simp only at HCX HXX HTJ HOK1 hsn
           have HBd := Lib.hid (show Below w.heap.size w wr.drew from below_drewN HSJ.out.bel 1)
           have lrF := (HAT.out.below HBd.out hbb).load
           obtain ⟨a5, c5, hc5, _⟩ := HSJ.out.con
           have i5 : wr.drew.cell? ⟨w.heap.size, 0, none⟩ = some (.int .i64 z.id) := cell_at (w := wr.drew) (i := 0) hc5 rfl
           have HOF := Lib.hid (r47of_any wr.drew w.heap.size num unit xa xc L z.id (HCX.out.below HBd.out) HBd.out.size (by have := HXX.out.1; omega) hsn.2.2.1 (by omega))
           have HML := Lib.hid (show ∀ y ∈ ofF z.id num L, ChLen y.2 from fun y hy => by
             obtain ⟨i, hi, rfl⟩ := ofF_mem z.id num L y hy
             exact HXX.out.2 _ (List.getElem_mem hi))
           have hml := ofF_len z.id num L
           have HMN := Lib.hid (show (ofF z.id num L).length ≤ 10 by have := HXX.out.1; omega)
           obtain ⟨B5, hB5⟩ : ∃ B5, B5 = wr.heap.size := ⟨_, rfl⟩
           have HB5 := Lib.hid hB5
           have HG6 := Lib.hid (show w.heap.size + 1 < B5 from by rw [hB5]; exact lt_of_block HSJ.out.res)
           clear hc5 hsn hml hB5
           generalize ofF z.id num L = m at HTJ HOK1 HOF HML HMN
           go_wp2_with fail
           go_region_held3 (fun w' => (loadLr ⟨b, off + j * 3, none⟩).run Tryz.prog w' = .ok (.agg (lrC num unit xa L.length xc)) w' ∧ w'.cell? ⟨w.heap.size, 0, none⟩ = some (.int .i64 z.id)) (first | (with_reducible exact ⟨lr6, i6⟩) | (with_reducible exact ⟨lrF, i5⟩) | fail)
             ((first
               | (go_at_call 57
                  (refine HOF.out.mono ?_)
                  rintro e w6 ⟨v6, rfl, ho6, hb6⟩
                  obtain ⟨a6, c6, rfl, _⟩ := nus_of_row ho6
                  have HBR := Lib.hid (show Below wr.heap.size wr w6 from below_drew1.trans hb6)
                  have HS6 := Lib.hid (HSJ.out.below HBR.out)
                  have HO6 := Lib.hid (show NuRow w6 B5 (.slice a6 m.length c6) m by rw [HB5.out]; exact ho6)
                  have lr6 := (HAT.out.below HS6.out.bel hbb).load
                  obtain ⟨a7, c7, hc7, _⟩ := HS6.out.con
                  have i6 := cell_at (i := 0) (v := .int .i64 z.id) hc7 rfl
                  clear ho6 hb6 hc7)
               | fail))
           clear lrF i5 lr6 i6 HOF HBd HAT
           go_wp2_with fail
           go_loopw [9] (fun k wr => ∃ (i : Nat) (ap2 : Int) (l2 : List Pr), i ≤ m.length ∧ k = .int .i64 i ∧ rollF z org fmt len ap l (allN z.id (R.take j) ++ m.take i) = (0, ap2, l2) ∧ RlSa w wr z org fmt len blk ap2 l2 a ∧ NuRow wr B5 (.slice a6 m.length c6) m) (fun k _ => m.length - (intOf k).toNat)
           case atStart => exact ⟨0, ap1, l1, by omega, rfl, by rw [List.take_zero, List.append_nil]; exact HRL.out, HS6.out, HO6.out⟩
           case round =>
             obtain ⟨i, ap2, l2, hi, rfl, hri, hsi, hoi⟩ := hrel
             have HRI := Lib.hid hri
             have HSI := Lib.hid hsi
             have HOI := Lib.hid hoi
             clear hri hsi hoi
             by_cases hil : i < m.length
             · have iI : (i : Int) < (m.length : Int) := by have := HMN.out; omega
               have iB : i ≤ 10 := by have := HMN.out; omega
               obtain ⟨a9, c9, he9, hn9⟩ := nus_of_row HOI.out
               injection he9 with he9 _ he9c
               subst he9 he9c
               obtain ⟨b6, off6, rfl, hb66, hln⟩ := hn9.get_all hil
               have HLN := Lib.hid hln
               have HTI := Lib.hid (show allN z.id (R.take j) ++ m.take (i + 1) = (allN z.id (R.take j) ++ m.take i) ++ [m[i]] by rw [List.take_succ_eq_append_getElem hil, List.append_assoc])
               have HCI := Lib.hid (HML.out _ (List.getElem_mem hil))
               have HOKI := Lib.hid (HOK1.out _ (List.getElem_mem hil))
               have HVI := Lib.hid (show valP z org fmt len blk ap2 l2 = true by
                 have := roll_valid (allN z.id (R.take j) ++ m.take i) ap l HVL.out (fun y hy => by
                   rcases List.mem_append.1 hy with hy | hy
                   · exact HOK0.out y hy
                   · exact HOK1.out y (List.mem_of_mem_take hy)) (by have := HLN0.out; have := HMN.out; rw [List.length_append, List.length_take]; omega) (by rw [HRI.out])
                 rwa [HRI.out] at this)
               have hll2 : l2.length ≤ 800 := by
                 have := roll_len (z := z) (org := org) (fmt := fmt) (len := len) (allN z.id (R.take j) ++ m.take i) ap l
                 rw [HRI.out] at this
                 have := HLN0.out; have := HMN.out
                 rw [List.length_append, List.length_take] at *
                 simp only at *
                 omega
               have HREST := Lib.hid (show ∀ er : Int, er ≠ 0 → rollF z org fmt len ap l (allN z.id (R.take j) ++ m.take (i + 1)) = (er, 0, []) → r = (er, 0, []) from fun er her hh => by
                 have e1 : allN z.id R = (allN z.id (R.take j) ++ m.take (i + 1)) ++ (m.drop (i + 1) ++ allN z.id (R.drop (j + 1))) := by
                   have : allN z.id R = allN z.id (R.take (j + 1)) ++ allN z.id (R.drop (j + 1)) := by unfold allN; rw [← List.flatMap_append, List.take_append_drop]
                   rw [this, HTJ.out, List.append_assoc, List.append_assoc]
                   congr 1
                   rw [← List.append_assoc, List.take_append_drop]
                 rw [HQ1.out, e1, roll_err _ _ _ _ (by rw [hh]; exact her), hh])
               have HONE := Lib.hid (roll_one (y := m[i]) HRI.out)
               rw [← HTI.out] at HONE
               clear hn9 HTI hln
               generalize m[i] = y at HLN HCI HOKI HONE
               obtain ⟨n, ck, ci, key, dat, vol⟩ := y
               simp only at HCI HOKI HONE HLN
               obtain ⟨a7, c7, hc7, hl7, hm7, hp7, hf7, hg7⟩ := HSI.out.con
               have HC7 := Lib.hid hc7
               have HF7 := Lib.hid hf7
               have HG7 := Lib.hid hg7
               have HP7 := Lib.hid hp7
               have HC7a := Lib.hid ((halloc wr (.cells conZ 26) (lt_of_block hc7)).trans hc7)
               have lcF : (loadCo ⟨w.heap.size, 0, none⟩).run Tryz.prog wr.drew = .ok (.agg (conC z org fmt len blk ap2 a7 l2.length c7)) wr.drew := loadCo_at (w := wr.drew) hc7 rfl
               have lcA : (loadCo ⟨w.heap.size, 0, none⟩).run Tryz.prog (wr.alloc (.cells conZ 26)).drew = .ok (.agg (conC z org fmt len blk ap2 a7 l2.length c7)) (wr.alloc (.cells conZ 26)).drew := loadCo_at (w := (wr.alloc (.cells conZ 26)).drew) HC7a.out rfl
               have lnF := HLN.out wr.drew below_drew1
               have lnA := HLN.out (wr.alloc (.cells conZ 26)).drew bel_ad
               have HDO := Lib.hid (fun (W : World) (hb : Below wr.heap.size wr W) => rdo_roll (z := z) W W.heap.size a7 c7 l2 org fmt len blk ap2 n ck ci key dat vol ((HP7.out.below hb).mono hb.size) (Nat.le_refl _) hl7 hm7 (by omega) hvo how (by have : key.length ≤ 50 := HCI.out.len.1; omega) (by have : dat.length ≤ 1200 := HCI.out.len.2.1; omega) (by have : vol.length ≤ 20 := HCI.out.len.2.2; omega) (fun p hp => by
                 have := (val_pairs HVI.out).1 p hp
                 unfold prOk at this
                 simp only [Bool.and_eq_true, decide_eq_true_eq] at this
                 omega) HVI.out HOKI.out.1 HOKI.out.2.1 HOKI.out.2.2)
               clear hc7 hp7 hf7 hg7
               generalize hdd : doL z org fmt len ap2 l2 n ck ci key dat = d at HDO HONE
               clear hdd
               by_cases hd0 : d.1 = 0
               · have HON2 := Lib.hid (show rollF z org fmt len ap l (allN z.id (R.take j) ++ m.take (i + 1)) = (0, d.2.1, d.2.2) by rw [HONE.out, if_neg (by simpa using hd0)])
                 have HD0' := Lib.hid hd0
                 clear hd0
                 go_wp2_with fail
                 go_region_held3 (fun w' => (loadCo ⟨w.heap.size, 0, none⟩).run Tryz.prog w' = .ok (.agg (conC z org fmt len blk ap2 a7 l2.length c7)) w' ∧ (loadNum ⟨b6, off6 + i * 6, none⟩).run Tryz.prog w' = .ok (.agg (nuC (n, ⟨ck, ci, key, dat, vol⟩))) w') (first | (with_reducible exact ⟨lcB, lnB⟩) | (with_reducible exact ⟨lcC, lnC⟩) | (with_reducible exact ⟨lc8a, ln8a⟩) | (with_reducible exact ⟨lc8, ln8⟩) | (with_reducible exact ⟨lcA, lnA⟩) | (with_reducible exact ⟨lcF, lnF⟩) | fail)
                   ((first
                     | (go_at_call 14
                        (with_reducible refine (HDO.out _ (by first | exact below_drew1 | exact bel_ad)).mono ?_)
                        rintro e w8 ⟨⟨cs, rfl, h1, h2⟩, hb8⟩
                        obtain ⟨a8, c8, rfl, hl8, hm8, hp8, hg8, hf8⟩ := h1 HD0'.out
                        have HP8 := Lib.hid hp8
                        have HG8 := Lib.hid hg8
                        have HL8 := Lib.hid hl8
                        have HM8 := Lib.hid hm8
                        have HB8 := Lib.hid (show Below wr.heap.size wr w8 by first | exact below_drew1.trans hb8 | exact bel_ad.trans (hb8.mono (by simp)))
                        first | have HX8 := Lib.hid (heap_below hb8 (show wr.heap.size < (wr.alloc (.cells conZ 26)).drew.heap.size by simp) (heap_alloc_new wr (.cells conZ 26))) | skip
                        have HF8 := Lib.hid (show d.2.2 ≠ [] → ∀ p, a8 = some p → (p.block < wr.heap.size ∧ p.block ≠ w.heap.size ∧ p.block ≠ w.heap.size + 1) ∨ wr.heap.size ≤ p.block from fun hne p hp => by
                          rcases hf8 hne p hp with ⟨h, hl0⟩ | h
                          · obtain ⟨b, off, e1, e2, _⟩ := HP7.out.cells hl0
                            rw [h] at hp
                            have h3 := HF7.out hl0 p hp
                            rw [e1] at hp; injection hp with hp; subst hp
                            exact Or.inl ⟨e2, h3.1, h3.2⟩
                          · exact Or.inr (Nat.le_trans (by first | exact below_drew1.size | exact bel_ad.size) h))
                        first
                          | (have hx8 := HX8.out
                             have HFA := Lib.hid (show d.2.2 ≠ [] → ∀ p, a8 = some p → p.block ≠ wr.heap.size from fun hne p hp => by
                              have hsz : (wr.alloc (.cells conZ 26)).drew.heap.size = wr.heap.size + 1 := by simp
                              rcases hf8 hne p hp with ⟨h, hl0⟩ | h
                              · obtain ⟨b, off, e1, e2, _⟩ := HP7.out.cells hl0
                                rw [h, e1] at hp; injection hp with hp; subst hp; simp only; omega
                              · have h' : (wr.alloc (.cells conZ 26)).drew.heap.size ≤ p.block := h
                                omega)
                             clear hx8)
                          | skip
                        have HS8 := Lib.hid (HSI.out.below HB8.out)
                        have hc8 := heap_below HB8.out (lt_of_block HC7.out) HC7.out
                        have HC8 := Lib.hid hc8
                        have lc8 := loadCo_at hc8 rfl
                        have ln8 := HLN.out w8 HB8.out
                        have hc8a := (halloc w8 (.cells conZ 26) (lt_of_block hc8)).trans hc8
                        have lc8a := loadCo_at hc8a rfl
                        have HBa := Lib.hid (show Below w8.heap.size w8 (w8.alloc (.cells conZ 26)) from box_below0 _ _ _)
                        have ln8a := HLN.out _ (HB8.out.trans (HBa.out.mono HB8.out.size))
                        have stB : (storeCo ⟨w8.heap.size, 0, none⟩ (.agg (conC z org fmt len blk d.2.1 a8 d.2.2.length c8))).run Tryz.prog (w8.alloc (.cells conZ 26)) = .ok () ((w8.alloc (.cells conZ 26)).setRow w8.heap.size (conC z org fmt len blk d.2.1 a8 d.2.2.length c8)) := storeCo_at (heap_alloc_new w8 _) rfl rfl one_con
                        have HBB := Lib.hid (show Below w8.heap.size w8 ((w8.alloc (.cells conZ 26)).setRow w8.heap.size (conC z org fmt len blk d.2.1 a8 d.2.2.length c8)) from below_setRow HBa.out (Nat.le_refl _) _)
                        have lcB := loadCo_at (heap_below HBB.out (lt_of_block HC8.out) HC8.out) rfl
                        have lnB := HLN.out _ (HB8.out.trans (HBB.out.mono HB8.out.size))
                        first
                          | (have stA : (storeCo ⟨wr.heap.size, 0, none⟩ (.agg (conC z org fmt len blk d.2.1 a8 d.2.2.length c8))).run Tryz.prog w8 = .ok () (w8.setRow wr.heap.size (conC z org fmt len blk d.2.1 a8 d.2.2.length c8)) := storeCo_at HX8.out rfl rfl one_con
                             have HBC := Lib.hid (show Below wr.heap.size wr (w8.setRow wr.heap.size (conC z org fmt len blk d.2.1 a8 d.2.2.length c8)) from below_setRow HB8.out (Nat.le_refl _) _)
                             have lcC := loadCo_at (heap_below HBC.out (lt_of_block HC7.out) HC7.out) rfl
                             have lnC := HLN.out _ HBC.out)
                          | skip
                        clear h1 h2 hl8 hm8 hp8 hg8 hf8 hb8 hc8 hc8a)
                     | fail))
                 all_goals
                   clear lcF lnF lcA lnA lc8 ln8 lc8a ln8a lcB lnB
                   first
                     | (have HX := Lib.hid (show (w8.setRow wr.heap.size (conC z org fmt len blk d.2.1 a8 d.2.2.length c8)).heap[wr.heap.size]? = some (.cells (conC z org fmt len blk d.2.1 a8 d.2.2.length c8) 26 (0, 0)) from setRow_heap _ _ _ _ _ _ HX8.out)
                        have HBF := Lib.hid HBC.out
                        have HPF := Lib.hid (show Prs (w8.setRow wr.heap.size (conC z org fmt len blk d.2.1 a8 d.2.2.length c8)) (w8.setRow wr.heap.size (conC z org fmt len blk d.2.1 a8 d.2.2.length c8)).heap.size a8 d.2.2 by simpa using prs_setRow2 (g := wr.heap.size) HP8.out HFA.out (conC z org fmt len blk d.2.1 a8 d.2.2.length c8))
                        clear stA stB lcC lnC)
                     | (have HX := Lib.hid (show ((w8.alloc (.cells conZ 26)).setRow w8.heap.size (conC z org fmt len blk d.2.1 a8 d.2.2.length c8)).heap[w8.heap.size]? = some (.cells (conC z org fmt len blk d.2.1 a8 d.2.2.length c8) 26 (0, 0)) from setRow_heap _ _ _ _ _ _ (heap_alloc_new w8 _))
                        have HBF := Lib.hid (HB8.out.trans (HBB.out.mono HB8.out.size))
                        have HPF := Lib.hid ((HP8.out.below HBB.out).mono HBB.out.size)
                        clear stB)
                   have HSF := Lib.hid (HSI.out.below HBF.out)
                   have HOF := Lib.hid (show NuRow _ B5 (.slice (some ⟨b6, off6, none⟩) m.length c6) m from own_below HOI.out HBF.out)
                   have lx := loadCo_at HX.out rfl
                   obtain ⟨w9, hst9, hs9, ho9⟩ := ra_put (z := z) (w := w) (a0 := a) (org := org) (fmt := fmt) (len := len) (blk := blk) (ap := d.2.1) (heap_below HBF.out (lt_of_block HC7.out) HC7.out) rfl HSF.out.res HSF.out.bel HPF.out (fun hne p hp => by
                     rcases HF8.out hne p hp with ⟨_, h⟩ | h
                     · exact h
                     · have := lt_of_block HSI.out.res; omega) (fun p hp => by
                     rcases HG8.out p hp with h | h
                     · rw [h]; exact HG7.out p (by rw [← h]; exact hp)
                     · refine Or.inr (Nat.le_trans HSI.out.bel.size (Nat.le_trans ?_ h))
                       first | exact below_drew1.size | exact bel_ad.size) HL8.out HM8.out
                   have HS9 := Lib.hid hs9
                   have HO9 := Lib.hid (nurow_keep HOF.out (fun g hg hlg => ho9 g (by have := HG6.out; omega) hlg))
                   clear hs9 ho9
                   rw [HD0'.out]
                   go_wp2_with fail
                   go_roundw
                   case rel => first | exact ⟨i + 1, d.2.1, d.2.2, by omega, by go_num, HON2.out, HS9.out, HO9.out⟩ | skip
                   case measure => simp [intOf]; omega
               · have HQ2 := Lib.hid (show r = (d.1, 0, []) from HREST.out d.1 hd0 (by rw [HONE.out, if_pos hd0]))
                 go_wp2_with fail
                 go_region_held3 (fun w' => (loadCo ⟨w.heap.size, 0, none⟩).run Tryz.prog w' = .ok (.agg (conC z org fmt len blk ap2 a7 l2.length c7)) w' ∧ (loadNum ⟨b6, off6 + i * 6, none⟩).run Tryz.prog w' = .ok (.agg (nuC (n, ⟨ck, ci, key, dat, vol⟩))) w') (first | (with_reducible exact ⟨lcB, lnB⟩) | (with_reducible exact ⟨lcC, lnC⟩) | (with_reducible exact ⟨lc8a, ln8a⟩) | (with_reducible exact ⟨lc8, ln8⟩) | (with_reducible exact ⟨lcA, lnA⟩) | (with_reducible exact ⟨lcF, lnF⟩) | fail)
                   ((first
                     | (go_at_call 14
                        (with_reducible refine (HDO.out _ (by first | exact below_drew1 | exact bel_ad)).mono ?_)
                        rintro e w8 ⟨⟨cs, rfl, h1, h2⟩, hb8⟩
                        obtain rfl := h2 hd0
                        have HB8 := Lib.hid (show Below wr.heap.size wr w8 by first | exact below_drew1.trans hb8 | exact bel_ad.trans (hb8.mono (by simp)))
                        first | have HX8 := Lib.hid (heap_below hb8 (show wr.heap.size < (wr.alloc (.cells conZ 26)).drew.heap.size by simp) (heap_alloc_new wr (.cells conZ 26))) | skip
                        have HS8 := Lib.hid (HSI.out.below HB8.out)
                        have hc8 := heap_below HB8.out (lt_of_block HC7.out) HC7.out
                        have HC8 := Lib.hid hc8
                        have lc8 := loadCo_at hc8 rfl
                        have ln8 := HLN.out w8 HB8.out
                        have hc8a := (halloc w8 (.cells conZ 26) (lt_of_block hc8)).trans hc8
                        have lc8a := loadCo_at hc8a rfl
                        have HBa := Lib.hid (show Below w8.heap.size w8 (w8.alloc (.cells conZ 26)) from box_below0 _ _ _)
                        have ln8a := HLN.out _ (HB8.out.trans (HBa.out.mono HB8.out.size))
                        have stB : (storeCo ⟨w8.heap.size, 0, none⟩ (.agg conZ)).run Tryz.prog (w8.alloc (.cells conZ 26)) = .ok () ((w8.alloc (.cells conZ 26)).setRow w8.heap.size conZ) := storeCo_at (heap_alloc_new w8 _) rfl rfl (by simp [Value.oneCell'])
                        have HBB := Lib.hid (show Below w8.heap.size w8 ((w8.alloc (.cells conZ 26)).setRow w8.heap.size conZ) from below_setRow HBa.out (Nat.le_refl _) _)
                        have lcB := loadCo_at (heap_below HBB.out (lt_of_block HC8.out) HC8.out) rfl
                        have lnB := HLN.out _ (HB8.out.trans (HBB.out.mono HB8.out.size))
                        first
                          | (have stA : (storeCo ⟨wr.heap.size, 0, none⟩ (.agg conZ)).run Tryz.prog w8 = .ok () (w8.setRow wr.heap.size conZ) := storeCo_at HX8.out rfl rfl (by simp [Value.oneCell'])
                             have HBC := Lib.hid (show Below wr.heap.size wr (w8.setRow wr.heap.size conZ) from below_setRow HB8.out (Nat.le_refl _) _)
                             have lcC := loadCo_at (heap_below HBC.out (lt_of_block HC7.out) HC7.out) rfl
                             have lnC := HLN.out _ HBC.out)
                          | skip
                        clear h1 h2 hb8 hc8 hc8a)
                     | fail))
                 all_goals
                   clear lcF lnF lcA lnA lc8 ln8 lc8a ln8a lcB lnB
                   first
                     | (have HX := Lib.hid (show (w8.setRow wr.heap.size conZ).heap[wr.heap.size]? = some (.cells conZ 26 (0, 0)) from setRow_heap _ _ _ _ _ _ HX8.out)
                        have HBF := Lib.hid HBC.out
                        clear stA stB lcC lnC)
                     | (have HX := Lib.hid (show ((w8.alloc (.cells conZ 26)).setRow w8.heap.size conZ).heap[w8.heap.size]? = some (.cells conZ 26 (0, 0)) from setRow_heap _ _ _ _ _ _ (heap_alloc_new w8 _))
                        have HBF := Lib.hid (HB8.out.trans (HBB.out.mono HB8.out.size))
                        clear stB)
                   have HSF := Lib.hid (HSI.out.below HBF.out)
                   obtain ⟨W', hst9, hld9, hret⟩ := roll_no (z := z) (w := w) (W := _) (org := org) (fmt := fmt) (len := len) (blk := blk) (r := (d.1, 0, [])) hd0 HSF.out.bel HSF.out.res
                   have HRET := Lib.hid hret
                   clear hret
                   go_wp2_with fail
                   refine ret_cell_tmp rfl rfl rfl rfl hld9 ?_
                   rw [HQ2.out]; exact HRET.out.any
             · have iI : ¬ (i : Int) < (m.length : Int) := by omega
               have HNX := Lib.hid (show rollF z org fmt len ap l (allN z.id (R.take (j + 1))) = (0, ap2, l2) by
                 rw [HTJ.out]; have := HRI.out; rwa [show m.take i = m from List.take_of_length_le (by omega)] at this)
               go_wp2_with fail
               go_roundw
               case rel => exact ⟨j + 1, ap2, l2, by omega, by go_num, HNX.out, HSI.out⟩
               case measure => simp [intOf]; omega
         · have jI : ¬ (j : Int) < (R.length : Int) := by omega
           have HQ2 := Lib.hid (show r = (0, ap1, l1) by
             rw [HQ1.out]; have := HRL.out; rwa [List.take_of_length_le (by omega)] at this)
           obtain ⟨a7, c7, hc7, hl7, hm7, hp7, hf7, hg7⟩ := HSJ.out.con
           have lc7 := loadCo_at hc7 rfl
           have hst9 := storeCo_at (cs := conC z org fmt len blk ap1 a7 l1.length c7) HSJ.out.res rfl rfl one_con
           have hld9 := loadCo_at (setRow_heap _ _ _ (conC z org fmt len blk ap1 a7 l1.length c7) _ _ HSJ.out.res) rfl
           have HRET := Lib.hid (show DoRet z org fmt len blk a w (0, ap1, l1) (.returned (.tuple #[.agg (conC z org fmt len blk ap1 a7 l1.length c7), .int .i64 0])) (wr.setRow (w.heap.size + 1) (conC z org fmt len blk ap1 a7 l1.length c7)) from
             ⟨⟨_, rfl, fun _ => ⟨a7, c7, rfl, hl7, hm7, by
               have := prs_setRow2 (g := w.heap.size + 1) hp7 (fun hn p hp => (hf7 hn p hp).2) (conC z org fmt len blk ap1 a7 l1.length c7)
               simpa using this, hg7⟩, fun h => absurd rfl h⟩, below_setRow HSJ.out.bel (by omega) _⟩)
           clear hc7 hl7 hm7 hp7 hf7 hg7
           go_wp2_with fail
           refine ret_cell_tmp rfl rfl rfl rfl hld9 ?_
           rw [HQ2.out]; exact HRET.out
end
end

end Go.Proofs.YtckpepfkfjdnhaaGreatDoor

/-
  Walks: the end behind pairs, by the program; the address of a record, by the reference. Conditions: not too many pairs.
  Walk: whether a content is valid, by the program. Conditions: not too many pairs; the laid table of segments' codes.
-/
import Derived.Test.YtckpepfkfjdnhaaGreatDoorQM
import Derived.Test.YtckpepfkfjdnhaaGreatDoorQP
import Derived.Lib.QuietBelow
namespace Go.Proofs.YtckpepfkfjdnhaaGreatDoor

section
open Go.RowKit Go.Sort
variable {z : Rest}

structure BehPost (w : World) (x : En) (e : Ending) (w' : World) : Prop where
 ex : ∃ cs, e = .returned (.agg cs) ∧ EnAt w' w'.heap.size x cs
 bel : Below w.heap.size w w'
theorem ret_cell1 {fn : Func} {R : Ending → World → Prop} {a : Act} {w : World} {p : Tmp} {g : Addr} {c : Value} {T : TypeId} (hf : fn.results = #[.cell p T]) (hp : a.tmps.getD p undef = .pointer (some g)) (hd : a.defers = [])
   (hL : (loadVar T g).run Tryz.prog w = .ok c w) (hR : R (.returned c) w) : bodyPost Tryz.prog fn R .ret a w := by
 have hp' : a.tmps[p]?.getD undef = .pointer (some g) := by simpa using hp
 exact bodyPost_ret (v := c) (by simp [results, hf, hp', asAddr, hL]) hd hR
theorem info_pr : (Tryz.prog.info? 46).map (·.size) = some 2 := by kernel_rfl

section
attribute [local go_sem ↓] loadEn_down storeEn_down loadDs_down
set_option maxRecDepth 100000 in
set_option maxHeartbeats 4000000 in
theorem behind_any (w : World) (B : Nat) (a : Option Addr) (cap : Nat) (l : List Pr) (org fmt len blk : Int) (iv : Nat) (h : Prs w B a l) (hB : B ≤ w.heap.size) (hiv : z.ivl = (iv : Int)) (hv1 : 1 ≤ iv) (hv2 : iv ≤ 512)
   (hl : l.length ≤ 5000) (hk : ∀ p ∈ l, p.2.length ≤ 100000) :
   Calls Tryz.prog 123 #[.agg (dsv z org fmt len blk), .slice a l.length cap] w (BehPost w (behindE iv l)) := by
 obtain ⟨W1, hW1⟩ : ∃ W1, W1 = ((w.alloc (.cells (dsv z org fmt len blk) 23)).alloc (.cells enz 85)).alloc (.cells enz 85) := ⟨_, rfl⟩
 have hz1' : W1.heap.size = w.heap.size + 3 := by rw [hW1]; simp
 have hB1 : Below w.heap.size w W1 := by rw [hW1]; exact (((Below.refl _ _).alloc (Nat.le_refl _) _).alloc (by simp) _).alloc (by simp; omega) _
 have hD1 : W1.heap[w.heap.size]? = some (.cells (dsv z org fmt len blk) 23 (0, 0)) := by rw [hW1, halloc _ _ (by simp; omega), halloc _ _ (by simp)]; exact heap_alloc_new w _
 have hO1 : W1.heap[w.heap.size + 1]? = some (.cells enz 85 (0, 0)) := by
   rw [hW1, halloc _ _ (by simp)]
   have := heap_alloc_new (w.alloc (.cells (dsv z org fmt len blk) 23)) (.cells enz 85)
   simpa using this
 have hX1 : W1.heap[w.heap.size + 2]? = some (.cells enz 85 (0, 0)) := by
   rw [hW1]
   have := heap_alloc_new ((w.alloc (.cells (dsv z org fmt len blk) 23)).alloc (.cells enz 85)) (.cells enz 85)
   simpa using this
 have HW1 := Lib.hid hW1
 have HB1 := Lib.hid hB1
 have HD1 := Lib.hid hD1
 have HO1 := Lib.hid hO1
 have HX1 := Lib.hid hX1
 have HZ1 := Lib.hid hz1'
 have HS := Lib.hid h
 have HK := Lib.hid hk
 have HIV := Lib.hid hiv
 clear hW1 hB1 hD1 hO1 hX1 hz1' h hk hiv
 go_enter Tryz.func123, Tryz.ntmps123
 go_wp2_with fail
 rw [← HW1.out]
 go_loopw [10] (fun k wr => ∃ (j : Nat) (cs : Array Value), j ≤ l.length ∧ k = .int .i64 j ∧ wr.heap[w.heap.size + 2]? = some (.cells cs 85 (0, 0)) ∧ EnAt wr wr.heap.size (behindE iv (l.take j)) cs ∧ Only [w.heap.size + 2] W1 wr) (fun k _ => l.length - (intOf k).toNat)
 case atStart => exact ⟨0, enz, by omega, rfl, HX1.out, ⟨none, 0, rfl, strs_nil _ _ _, Nat.le_refl _, by omega⟩, Only.refl _ _⟩
 case round =>
   obtain ⟨j, cs, hj, rfl, hX, hE, hO⟩ := hrel
   have HX := Lib.hid hX
   have HE := Lib.hid hE
   have HO := Lib.hid hO
   have HBW := Lib.hid (hO.below (B := w.heap.size + 2) (by rw [HZ1.out]; omega) (fun k hk => by simp at hk; omega))
   clear hX hE hO
   have HDr := Lib.hid (heap_below HBW.out (by omega) HD1.out)
   have HOr := Lib.hid (heap_below HBW.out (by omega) HO1.out)
   have HBT := Lib.hid (HB1.out.trans (HBW.out.mono (by omega)))
   by_cases hlt : j < l.length
   · obtain ⟨b, off, rfl, hbb, hc1, hc2⟩ := HS.out.get hlt
     have hr1 : wr.cell? ⟨b, off + j * 2, none⟩ = some (.string ⟨l[j].1.toArray⟩) := ((HBT.out.mono hB).cell (p := ⟨b, off + j * 2, none⟩) hbb).trans hc1
     have hr2 : wr.cell? ⟨b, off + j * 2 + 1, none⟩ = some (.string ⟨l[j].2.toArray⟩) := ((HBT.out.mono hB).cell (p := ⟨b, off + j * 2 + 1, none⟩) hbb).trans hc2
     have hkr := HK.out l[j] (List.getElem_mem hlt)
     have HT := Lib.hid (behind_take iv l j hlt)
     generalize l[j] = p at hr1 hr2 hkr HT
     clear hc1 hc2
     obtain ⟨k, r⟩ := p
     simp only at hr1 hr2 hkr HT
     have HFW := Lib.hid (behind_few iv (l.take j) (by rw [List.length_take]; omega) (fun q hq => HK.out q (List.mem_of_mem_take hq)))
     generalize behindE iv (l.take j) = x at HE HT HFW
     obtain ⟨W2, hW2⟩ : ∃ W2, W2 = wr.alloc (.cells #[.string ⟨k.toArray⟩, .string ⟨r.toArray⟩] 46) := ⟨_, rfl⟩
     have HB2 := Lib.hid (show Below wr.heap.size wr W2 by rw [hW2]; exact box_below wr _ _)
     have HX2 := Lib.hid (heap_below HB2.out (lt_of_block HX.out) HX.out)
     have HD2 := Lib.hid (heap_below HB2.out (lt_of_block HDr.out) HDr.out)
     have hp2 : W2.heap[wr.heap.size]? = some (.cells #[.string ⟨k.toArray⟩, .string ⟨r.toArray⟩] 46 (0, 0)) := by rw [hW2]; exact heap_alloc_new wr _
     have HP2 := Lib.hid hp2
     have lx := loadEn_at HX2.out HE.out.size
     have ld := loadDs_at HD2.out rfl
     have lr := cell_at (i := 1) (v := .string ⟨r.toArray⟩) hp2 rfl
     have HW2 := Lib.hid hW2
     have HNX := Lib.hid (next_any W2 wr.heap.size x cs org fmt len blk iv r (HE.out.below HB2.out) HB2.out.size HIV.out hv1 hv2 HFW.out.page HFW.out.on HFW.out.each hkr HFW.out.used)
     clear hp2
     rw [hW2] at lx ld lr
     clear hW2
     go_wp2_with fail
     rw [← HW2.out]
     clear lx ld lr hr1 hr2
     refine HNX.out.mono ?_
     rintro e w3 ⟨⟨cs3, rfl, hE3⟩, hb3⟩
     have HE3 := Lib.hid hE3
     have HB3 := Lib.hid hb3
     have HX3 := Lib.hid (heap_below hb3 (lt_of_block HX2.out) HX2.out)
     have st3 : (storeEn ⟨w.heap.size + 1 + 1, 0, none⟩ (.agg cs3)).run Tryz.prog w3 = .ok () (w3.setRow (w.heap.size + 2) cs3) := storeEn_at HX3.out HE3.out.size (by rw [HE3.out.size, HE.out.size]) HE3.out.one
     have HE4 := Lib.hid ((HE3.out.setRow (cs' := cs3) (by obtain ⟨A0, C0, h0, _⟩ := HE.out.ex; exact ⟨A0, C0, h0⟩) HX3.out (Nat.le_refl _)).mono (show w3.heap.size ≤ (w3.setRow (w.heap.size + 2) cs3).heap.size by simp))
     have HX4 := Lib.hid (setRow_heap w3 (w.heap.size + 2) _ cs3 _ _ HX3.out)
     have HO4 := Lib.hid (show Only [w.heap.size + 2] W1 (w3.setRow (w.heap.size + 2) cs3) from Only.setRow (HO.out.step_below (HB2.out.trans (HB3.out.mono HB2.out.size))) (Or.inl (by simp)) cs3)
     clear hE3 hb3
     generalize w3.setRow (w.heap.size + 2) cs3 = w4 at st3 HE4 HX4 HO4
     go_wp2_with fail
     go_roundw
     case rel => exact ⟨j + 1, cs3, by omega, by go_num, HX4.out, by rw [HT.out]; exact HE4.out, HO4.out⟩
     case measure => simp [intOf]; omega
   · obtain rfl : j = l.length := by omega
     have lx := loadEn_at HX.out HE.out.size
     have st : (storeEn ⟨w.heap.size + 1, 0, none⟩ (.agg cs)).run Tryz.prog wr = .ok () (wr.setRow (w.heap.size + 1) cs) := storeEn_at HOr.out HE.out.size (by rw [HE.out.size]; rfl) HE.out.one
     have HE4 := Lib.hid ((HE.out.setRow (y := ⟨0, []⟩) (old := enz) (cs' := cs) (g := w.heap.size + 1) ⟨none, 0, rfl⟩ HOr.out (Nat.le_refl _)).mono (show wr.heap.size ≤ (wr.setRow (w.heap.size + 1) cs).heap.size by simp))
     have HX4 := Lib.hid (setRow_heap wr (w.heap.size + 1) _ cs _ _ HOr.out)
     have HB4 := Lib.hid (below_setRow HBT.out (show w.heap.size ≤ w.heap.size + 1 by omega) cs)
     have HSZ := Lib.hid HE.out.size
     generalize wr.setRow (w.heap.size + 1) cs = w4 at st HE4 HX4 HB4
     go_wp2_with fail
     refine ret_cell1 rfl rfl rfl (loadEn_at HX4.out HSZ.out) ?_
     exact ⟨⟨cs, rfl, by have := HE4.out; rwa [List.take_length] at this⟩, HB4.out⟩

end
end

section
open Go.RowKit Go.Sort
variable {z : Rest}

/-- Whether the key of a pair is behind the last one. -/
def prevOk (pre : List Pr) (p : Pr) : Bool := match pre.getLast? with
 | none => true
 | some q => Op.bytesLess q.1 p.1
/-- The key that a pair must have. -/
def wantP (org : Int) (iv : Nat) (pre : List Pr) (p : Pr) : By := if org = 0 then slotB (pre.length + 1) else if org = 1 then (nextE iv (behindE iv pre) p.2).1 else p.1
def stepP (z : Rest) (org fmt len : Int) (pre : List Pr) (p : Pr) : Bool := alP z org fmt len p && prevOk pre p && decide (wantP org z.ivl.toNat pre p = p.1)
/-- Whether pairs may be the pairs of a data set. -/
def valL (z : Rest) (org fmt len : Int) (l : List Pr) : Bool := decide (∀ i, (h : i < l.length) → stepP z org fmt len (l.take i) l[i] = true)
theorem valL_no {org fmt len : Int} {l : List Pr} {j : Nat} (h : j < l.length) (hs : stepP z org fmt len (l.take j) l[j] = false) : valL z org fmt len l = false := by
 unfold valL
 rw [decide_eq_false_iff_not]
 intro hall
 rw [hall j h] at hs; cases hs
theorem valL_yes {org fmt len : Int} {l : List Pr} (h : ∀ i, (hi : i < l.length) → i < l.length → stepP z org fmt len (l.take i) l[i] = true) : valL z org fmt len l = true := by
 unfold valL
 rw [decide_eq_true_iff]
 exact fun i hi => h i hi hi
/-- Whether a content is valid. -/
def valP (z : Rest) (org fmt len blk ap : Int) (l : List Pr) : Bool :=
 descP z org fmt len blk && (decide (0 ≤ ap) && decide (ap ≤ 1099511627776)) && decide (l.length ≤ 1024) && archP z org fmt len blk ap l && valL z org fmt len l
theorem kval_ivl {org fmt len blk : Int} (h : kvalP z org fmt len blk = true) : ∃ iv : Nat, z.ivl = (iv : Int) ∧ 1 ≤ iv ∧ iv ≤ 512 := by
 unfold kvalP ivlP at h
 simp only [Bool.and_eq_true, Bool.or_eq_true, decide_eq_true_eq] at h
 obtain ⟨iv, hv⟩ := Int.eq_ofNat_of_zero_le (show 0 ≤ z.ivl by omega)
 exact ⟨iv, hv, by omega, by omega⟩

section
attribute [local go_sem ↓] loadDs_down storeDs_down loadEn_down storeEn_down
set_option maxRecDepth 100000 in
set_option maxHeartbeats 8000000 in
theorem fvalid_any (w : World) (B : Nat) (a : Option Addr) (cap : Nat) (l : List Pr) (org fmt len blk ap : Int) (h : Prs w B a l) (hB : B ≤ w.heap.size) (hl : l.length ≤ 5000) (hvo : z.vol.length ≤ 9223372036854775807) (how : z.own.length ≤ 9223372036854775807)
   (hc0 : Codes w) (hk : ∀ p ∈ l, p.1.length ≤ 100000 ∧ p.2.length ≤ 100000) :
   Calls Tryz.prog 17 #[.agg (conC z org fmt len blk ap a l.length cap)] w fun e w' => e = .returned (.bool (valP z org fmt len blk ap l)) ∧ Below w.heap.size w w' := by
 have ld := loadDs_con (heap_alloc_new w (.cells (conC z org fmt len blk ap a l.length cap) 26))
 obtain ⟨W1, st, hT⟩ := two_con w z org fmt len blk ap a l.length cap 26
 have ld1 := loadDs_at hT.ds rfl
 have c21 := cell_at (i := 21) (v := .int .i64 ap) hT.con rfl
 have c22 := cell_at (i := 22) (v := .slice a l.length cap) hT.con rfl
 have HT := Lib.hid hT
 have HS := Lib.hid h
 have HCO := Lib.hid hc0
 have HK := Lib.hid hk
 have HDE := Lib.hid (described_any (z := z) org fmt len blk W1)
 have HR := Lib.hid (show valP z org fmt len blk ap l = (descP z org fmt len blk && (decide (0 ≤ ap) && decide (ap ≤ 1099511627776)) && decide (l.length ≤ 1024) && archP z org fmt len blk ap l && valL z org fmt len l) from rfl)
 clear hT h hc0 hk
 cases hd : descP z org fmt len blk with
 | false =>
   rw [hd] at HDE
   have H := Lib.hid (show valP z org fmt len blk ap l = false by rw [HR.out, hd]; rfl)
   clear hd
   go_enter Tryz.func17, Tryz.ntmps17
   go_wp2_with fail
   refine HDE.out.mono ?_
   rintro e w2 ⟨rfl, hb2⟩
   have HB2 := Lib.hid (HT.out.bel.trans (hb2.mono HT.out.bel.size))
   clear ld st ld1 c21 c22 hb2
   go_wp2_with fail
   go_ret
   exact ⟨by rw [H.out]; rfl, HB2.out⟩
 | true =>
   rw [hd] at HDE HR
   have HD := Lib.hid hd
   clear hd
   go_enter Tryz.func17, Tryz.ntmps17
   go_wp2_with fail
   refine HDE.out.mono ?_
   rintro e w2 ⟨rfl, hb2⟩
   have HB2 := Lib.hid (HT.out.bel.trans (hb2.mono HT.out.bel.size))
   have HB12 := Lib.hid hb2
   have hA2 := heap_below hb2 (lt_of_block HT.out.con) HT.out.con
   have hD2 := heap_below hb2 (lt_of_block HT.out.ds) HT.out.ds
   clear ld st ld1 c21 c22 hb2 HDE
   have ld2 := loadDs_at hD2 rfl
   have c21 := cell_at (i := 21) (v := .int .i64 ap) hA2 rfl
   have c22 := cell_at (i := 22) (v := .slice a l.length cap) hA2 rfl
   clear hA2 hD2
   by_cases h1 : ap < 0
   · have H := Lib.hid (show valP z org fmt len blk ap l = false by
       have e1 : decide (0 ≤ ap) = false := by simp; omega
       rw [HR.out, e1]; rfl)
     go_wp2_with fail
     go_ret
     exact ⟨by rw [H.out]; rfl, HB2.out⟩
   · by_cases h2 : 1099511627776 < ap
     · have H := Lib.hid (show valP z org fmt len blk ap l = false by
         have e1 : decide (ap ≤ 1099511627776) = false := by simp; omega
         rw [HR.out, e1, Bool.and_false]; rfl)
       go_wp2_with fail
       go_ret
       exact ⟨by rw [H.out]; rfl, HB2.out⟩
     · by_cases h3 : l.length ≤ 1024
       · have g3 : decide ((1024 : Int) < (l.length : Int)) = false := by simp; omega
         have HR2 := Lib.hid (show valP z org fmt len blk ap l = (archP z org fmt len blk ap l && valL z org fmt len l) by
           have e1 : decide (0 ≤ ap) = true := by simp; omega
           have e2 : decide (ap ≤ 1099511627776) = true := by simp; omega
           have e3 : decide (l.length ≤ 1024) = true := by simp; omega
           rw [HR.out, e1, e2, e3]; rfl)
         have HAV := Lib.hid (avalid_any (z := z) w2 B a cap l org fmt len blk ap (HS.out.below (HB2.out.mono hB)) (Nat.le_trans hB HB2.out.size) hl hvo how)
         clear HR
         have g1 : decide (ap < 0) = false := by simpa using h1
         have g2 : decide ((1099511627776 : Int) < ap) = false := by simpa using h2
         cases hq : archP z org fmt len blk ap l with
         | false =>
           rw [hq] at HAV HR2
           have H := Lib.hid (show valP z org fmt len blk ap l = false by rw [HR2.out]; rfl)
           clear hq
           go_wp2_with fail
           refine HAV.out.mono ?_
           rintro e w3 ⟨rfl, hb3⟩
           have HB3 := Lib.hid (HB2.out.trans (hb3.mono HB2.out.size))
           go_wp2_with fail
           go_ret
           exact ⟨by rw [H.out]; rfl, HB3.out⟩
         | true =>
           rw [hq, Bool.true_and] at HR2
           rw [hq] at HAV
           clear hq
           go_wp2_with fail
           refine HAV.out.mono ?_
           rintro e w3 ⟨rfl, hb3⟩
           have HB3 := Lib.hid (HB2.out.trans (hb3.mono HB2.out.size))
           have HB13 := Lib.hid (HB12.out.trans (hb3.mono HB12.out.size))
           have hA3 := heap_below HB13.out (lt_of_block HT.out.con) HT.out.con
           have hD3 := heap_below HB13.out (lt_of_block HT.out.ds) HT.out.ds
           have HA3 := Lib.hid hA3
           have HD3 := Lib.hid hD3
           clear ld2 c21 c22 hb3 HAV HB12 hD3 g1 g2
           have c22 := cell_alloc1 (o := .cells enz 85) (cell_at (i := 22) (v := .slice a l.length cap) hA3 rfl)
           clear hA3
           obtain ⟨xb, hxb⟩ : ∃ xb, xb = w3.heap.size := ⟨_, rfl⟩
           have HX3 := Lib.hid (show (w3.alloc (.cells enz 85)).heap[xb]? = some (.cells enz 85 (0, 0)) by rw [hxb]; exact heap_alloc_new w3 _)
           have HB34 := Lib.hid (show Below w3.heap.size w3 (w3.alloc (.cells enz 85)) from box_below w3 _ _)
           have HXB := Lib.hid hxb
           have HZ3 := Lib.hid (show w.heap.size + 2 ≤ w3.heap.size by have := HB13.out.size; have := HT.out.size; omega)
           clear hxb
           go_wp2_with fail
           rw [← HXB.out]
           clear c22
           generalize w3.alloc (.cells enz 85) = w4 at HX3 HB34 ⊢
           go_loopw [42] (fun k wr => ∃ (j : Nat) (cs : Array Value), j ≤ l.length ∧ k = .int .i64 j ∧ (∀ i, (hi : i < l.length) → i < j → stepP z org fmt len (l.take i) l[i] = true) ∧ (org = 1 → EnAt wr wr.heap.size (behindE z.ivl.toNat (l.take j)) cs) ∧ wr.heap[xb]? = some (.cells cs 85 (0, 0)) ∧ cs.size = 3 ∧ Below w3.heap.size w3 wr) (fun k _ => l.length - (intOf k).toNat)
           case atStart => exact ⟨0, enz, by omega, rfl, fun i _ hi => by omega, fun _ => ⟨none, 0, rfl, strs_nil _ _ _, Nat.le_refl _, by omega⟩, HX3.out, rfl, HB34.out⟩
           case round =>
             obtain ⟨j, cs, hj, rfl, hst, hE, hX, hcs, hb⟩ := hrel
             have HST := Lib.hid hst
             have HE := Lib.hid hE
             have HX := Lib.hid hX
             have HCS := Lib.hid hcs
             have HB := Lib.hid hb
             have HAr := Lib.hid (heap_below hb (lt_of_block HA3.out) HA3.out)
             have HDr := Lib.hid (heap_below hb (lt_of_block HD3.out) HD3.out)
             have HBT := Lib.hid (HB3.out.trans (hb.mono HB3.out.size))
             clear hst hE hX hcs hb
             by_cases hlt : j < l.length
             · obtain ⟨b, off, rfl, hbb, hc1, hc2⟩ := HS.out.get hlt
               have hr1 : wr.cell? ⟨b, off + j * 2, none⟩ = some (.string ⟨l[j].1.toArray⟩) := ((HBT.out.mono hB).cell (p := ⟨b, off + j * 2, none⟩) hbb).trans hc1
               have hr2 : wr.cell? ⟨b, off + j * 2 + 1, none⟩ = some (.string ⟨l[j].2.toArray⟩) := ((HBT.out.mono hB).cell (p := ⟨b, off + j * 2 + 1, none⟩) hbb).trans hc2
               have hkj := HK.out l[j] (List.getElem_mem hlt)
               have HNO := Lib.hid (fun hs => HR2.out.trans (valL_no (z := z) (org := org) (fmt := fmt) (len := len) hlt hs))
               have HYES := Lib.hid (fun (hs : stepP z org fmt len (l.take j) l[j] = true) i (hi : i < l.length) (hij : i < j + 1) => show stepP z org fmt len (l.take i) l[i] = true by
                 rcases Nat.lt_or_ge i j with h | h
                 · exact HST.out i hi h
                 · obtain rfl : i = j := by omega
                   exact hs)
               have HBT1 := Lib.hid (behind_take z.ivl.toNat l j hlt)
               have HPV := Lib.hid (fun (h0 : 0 < j) => show prevOk (l.take j) l[j] = Op.bytesLess (l[j - 1]'(by omega)).1 l[j].1 by
                 unfold prevOk
                 rw [List.getLast?_eq_getElem?, List.length_take, Nat.min_eq_left hj, List.getElem?_eq_getElem (by rw [List.length_take]; omega)]
                 simp)
               have HPV0 := Lib.hid (fun (h0 : j = 0) => show prevOk (l.take j) l[j] = true by subst h0; rfl)
               have HTL := Lib.hid (show (l.take j).length = j by rw [List.length_take]; omega)
               have HQP := Lib.hid (fun (h0 : 0 < j) => show wr.cell? ⟨b, off + (j - 1) * 2, none⟩ = some (.string ⟨(l[j - 1]'(by omega)).1.toArray⟩) by
                 obtain ⟨b', off', hbo, hbb', hc1', _⟩ := HS.out.get (i := j - 1) (by omega)
                 obtain ⟨rfl, rfl⟩ : b = b' ∧ off = off' := by simpa using hbo
                 exact ((HBT.out.mono hB).cell (p := ⟨b, off + (j - 1) * 2, none⟩) hbb').trans hc1')
               clear hc1 hc2
               generalize hqq : l[j] = p at hr1 hr2 hkj HNO HYES HBT1 HPV HPV0
               clear hqq
               obtain ⟨k, r⟩ := p
               simp only at hr1 hr2 hkj HNO HYES HBT1 HPV HPV0
               obtain ⟨hkk, hkr⟩ := hkj
               obtain ⟨W5, hW5⟩ : ∃ W5, W5 = wr.alloc (.cells #[.string ⟨k.toArray⟩, .string ⟨r.toArray⟩] 46) := ⟨_, rfl⟩
               have HB5 := Lib.hid (show Below wr.heap.size wr W5 by rw [hW5]; exact box_below wr _ _)
               have HP5 := Lib.hid (show W5.heap[wr.heap.size]? = some (.cells #[.string ⟨k.toArray⟩, .string ⟨r.toArray⟩] 46 (0, 0)) by rw [hW5]; exact heap_alloc_new wr _)
               have HD5 := Lib.hid (heap_below HB5.out (lt_of_block HDr.out) HDr.out)
               have HA5 := Lib.hid (heap_below HB5.out (lt_of_block HAr.out) HAr.out)
               have TD := fun d os => loadDs_at (((below_regrown W5 d os).block _ (lt_of_block HD5.out)).trans HD5.out) rfl
               have T22 := fun d os => cell_regrown (cell_at (i := 22) (v := .slice (some ⟨b, off, none⟩) l.length cap) HA5.out rfl) d os
               have TP0 := fun d os => cell_regrown (cell_at (i := 0) (v := .string ⟨k.toArray⟩) HP5.out rfl) d os
               have TP1 := fun d os => cell_regrown (cell_at (i := 1) (v := .string ⟨r.toArray⟩) HP5.out rfl) d os
               have HAL := Lib.hid (fun d os => show Calls Tryz.prog 41 #[.agg (dsv z org fmt len blk), .agg #[.string ⟨k.toArray⟩, .string ⟨r.toArray⟩]] (grow (redrawn W5 d) os) fun e w' => e = .returned (.bool (alP z org fmt len (k, r))) ∧ Below (grow (redrawn W5 d) os).heap.size (grow (redrawn W5 d) os) w' from
                 allowed49_any (z := z) org fmt len blk (k, r) (grow (redrawn W5 d) os) HD.out ((HCO.out.below (HBT.out.trans (HB5.out.mono HBT.out.size)) HCO.out.pos).below (below_regrown W5 d os) (Nat.lt_of_lt_of_le HCO.out.pos (Nat.le_trans HBT.out.size HB5.out.size))) (by simp only; omega) (by simp only; omega))
               have HW5 := Lib.hid hW5
               cases ha : alP z org fmt len (k, r) with
               | false =>
                 rw [ha] at HAL
                 have H := Lib.hid (HNO.out (show stepP z org fmt len (l.take j) (k, r) = false by unfold stepP; rw [ha]; rfl))
                 have TPV : True := trivial
                 clear ha hW5
                 go_wp2_with fail
                 rw [← HW5.out]
                 refine wp_region_quiet_below (by kernel_rfl) (by kernel_rfl) ?_
                 repeat (go_big_quiet_step ((first | (go_at_call 41; exact Calls.regrown_of (HAL.out _ _)) | fail)))
                 refine wpQuiet_nil ?_
                 intro _ hw'
                 obtain ⟨⟨dq, osq⟩, hw''⟩ := hw'
                 subst hw''
                 have HB56 := Lib.hid (below_regrown W5 dq osq)
                 generalize grow (redrawn W5 dq) osq = W6 at HB56 ⊢
                 have HB6 := Lib.hid (HB5.out.trans (HB56.out.mono HB5.out.size))
                 have HBF := Lib.hid (HBT.out.trans (HB6.out.mono HBT.out.size))
                 clear TD T22 TP0 TP1 TPV
                 go_wp2_with fail
                 go_ret
                 exact ⟨by rw [H.out]; rfl, HBF.out⟩
               | true =>
                 rw [ha] at HAL
                 have HAL1 := Lib.hid ha
                 clear ha hW5
                 by_cases hj0 : j = 0
                 · have HPOK := Lib.hid (HPV0.out hj0)
                   have g0 : ¬ 0 < j := by omega
                   have g1 : ¬ (0 : Int) < (j : Int) := by omega
                   have TPV : True := trivial
                   have hj0' := Lib.hid hj0
                   clear hj0
                   go_wp2_with fail
                   rw [← HW5.out]
                   refine wp_region_quiet_below (by kernel_rfl) (by kernel_rfl) ?_
                   repeat (go_big_quiet_step ((first | (go_at_call 41; exact Calls.regrown_of (HAL.out _ _)) | fail)))
                   refine wpQuiet_nil ?_
                   intro _ hw'
                   obtain ⟨⟨dq, osq⟩, hw''⟩ := hw'
                   subst hw''
                   have HB56 := Lib.hid (below_regrown W5 dq osq)
                   generalize grow (redrawn W5 dq) osq = W6 at HB56 ⊢
                   have HB6 := Lib.hid (HB5.out.trans (HB56.out.mono HB5.out.size))
                   have HBF := Lib.hid (HBT.out.trans (HB6.out.mono HBT.out.size))
                   clear TD T22 TP0 TP1 TPV
                   clear g0 g1
                   have hp6 := (HB56.out.block _ (lt_of_block HP5.out)).trans HP5.out
                   have hd6 := (HB56.out.block _ (lt_of_block HD5.out)).trans HD5.out
                   have HX6 := Lib.hid ((HB6.out.block _ (lt_of_block HX.out)).trans HX.out)
                   have p0 := cell_at (i := 0) (v := .string ⟨k.toArray⟩) hp6 rfl
                   have p1 := cell_at (i := 1) (v := .string ⟨r.toArray⟩) hp6 rfl
                   have d1 := cell_at (i := 1) (v := .int .i64 org) hd6 rfl
                   have HP6 := Lib.hid hp6
                   have HD6 := Lib.hid hd6
                   have HB36 := Lib.hid (HB.out.trans (HB6.out.mono HB.out.size))
                   clear hp6 hd6
                   rcases desc_org HD.out with h0 | h0 | h0 | h0
                   · have e0 : (org == 0) = true := by simp [h0]
                     have hn1 : org ≠ 1 := by omega
                     have HSLO := Lib.hid (fun W => slot_any' (j + 1) ((j : Int) + 1) (by simp) W (by omega))
                     have HW := Lib.hid (show wantP org z.ivl.toNat (l.take j) (k, r) = slotB (j + 1) by unfold wantP; rw [if_pos h0, HTL.out])
                     clear h0
                     go_wp2_with fail
                     refine (HSLO.out _).mono ?_
                     rintro e w7 ⟨rfl, hb7⟩
                     have HB37 := Lib.hid (HB36.out.trans (hb7.mono HB36.out.size))
                     have HBF7 := Lib.hid (HBF.out.trans (hb7.mono HBF.out.size))
                     have HX7 := Lib.hid ((hb7.block _ (lt_of_block HX6.out)).trans HX6.out)
                     have p07 := cell_at (i := 0) (v := .string ⟨k.toArray⟩) ((hb7.block _ (lt_of_block HP6.out)).trans HP6.out) rfl
                     clear hb7 p0 p1 d1
                     unfold sv
                     by_cases hw : slotB (j + 1) = k
                     · have HSTEP := Lib.hid (show stepP z org fmt len (l.take j) (k, r) = true by unfold stepP; rw [HAL1.out, HPOK.out, HW.out]; simp [hw])
                       have g : (slotB (j + 1) == k) = true := by simp [hw]
                       have gn : (slotB (j + 1) != k) = false := by simp [hw]
                       clear hw
                       go_wp2_with fail
                       go_roundw
                       case rel => exact ⟨j + 1, cs, by omega, by go_num, HYES.out HSTEP.out, fun h => absurd h hn1, HX7.out, HCS.out, HB37.out⟩
                       case measure => simp [intOf]; omega
                     · have H := Lib.hid (HNO.out (show stepP z org fmt len (l.take j) (k, r) = false by unfold stepP; rw [HAL1.out, HPOK.out, HW.out]; simp [hw]))
                       have g : (slotB (j + 1) == k) = false := by simp [hw]
                       have gn : (slotB (j + 1) != k) = true := by simp [hw]
                       clear hw
                       go_wp2_with fail
                       go_ret
                       exact ⟨by rw [H.out]; rfl, HBF7.out⟩
                   · have e0 : (org == 0) = false := by simp [h0]
                     have e1 : (org == 1) = true := by simp [h0]
                     obtain ⟨iv, hiv, hiv1, hiv2⟩ := kval_ivl (desc_kval HD.out (by omega))
                     have hivn : z.ivl.toNat = iv := by rw [hiv]; simp
                     have HE1 := Lib.hid (HE.out h0)
                     have HFW := Lib.hid (behind_few iv (l.take j) (by rw [HTL.out]; omega) (fun q hq => (HK.out q (List.mem_of_mem_take hq)).2))
                     have HW := Lib.hid (show wantP org z.ivl.toNat (l.take j) (k, r) = (nextE iv (behindE iv (l.take j)) r).1 by unfold wantP; rw [if_neg (by omega), if_pos h0, hivn])
                     rw [hivn] at HE1 HBT1
                     have HIV := Lib.hid hiv
                     clear hiv
                     have HIVN := Lib.hid hivn
                     clear hivn
                     generalize behindE iv (l.take j) = x at HE1 HBT1 HFW HW
                     have lx := loadEn_at HX6.out HCS.out
                     have ldx := loadDs_at HD6.out rfl
                     have HNX := Lib.hid (next_any (z := z) W6 wr.heap.size x cs org fmt len blk iv r (HE1.out.below HB6.out) HB6.out.size HIV.out hiv1 hiv2 HFW.out.page HFW.out.on HFW.out.each hkr HFW.out.used)
                     have h01 := h0
                     have HO1 := Lib.hid h0
                     clear h0 h01
                     go_wp2_with fail
                     refine HNX.out.mono ?_
                     rintro e w7 ⟨⟨cs3, rfl, hE3⟩, hb7⟩
                     have HE3 := Lib.hid hE3
                     have HX7 := Lib.hid ((hb7.block _ (lt_of_block HX6.out)).trans HX6.out)
                     have hp7 := (hb7.block _ (lt_of_block HP6.out)).trans HP6.out
                     have HB37 := Lib.hid (HB36.out.trans (hb7.mono HB36.out.size))
                     have HBF7 := Lib.hid (HBF.out.trans (hb7.mono HBF.out.size))
                     have st3 : (storeEn ⟨xb, 0, none⟩ (.agg cs3)).run Tryz.prog w7 = .ok () (w7.setRow xb cs3) := storeEn_at HX7.out HE3.out.size (by rw [HE3.out.size, HCS.out]) HE3.out.one
                     have HE4 := Lib.hid ((HE3.out.setRow (cs' := cs3) (by obtain ⟨A0, C0, h9, _⟩ := HE1.out.ex; exact ⟨A0, C0, h9⟩) HX7.out (Nat.le_refl _)).mono (show w7.heap.size ≤ (w7.setRow xb cs3).heap.size by simp))
                     have HX8 := Lib.hid (setRow_heap w7 xb _ cs3 _ _ HX7.out)
                     have HB38 := Lib.hid (below_setRow HB37.out (show w3.heap.size ≤ xb by rw [HXB.out]; exact Nat.le_refl _) cs3)
                     have HBF8 := Lib.hid (below_setRow HBF7.out (show w.heap.size ≤ xb by rw [HXB.out]; have := HZ3.out; omega) cs3)
                     have p08 := cell_at (i := 0) (v := .string ⟨k.toArray⟩) ((heap_setRow_other' w7 (g := xb) cs3 (lt_of_block hp7) (fun e => by
                       have h1 := hp7
                       rw [e, HX7.out] at h1
                       injection h1 with h1
                       injection h1 with h2 h3
                       exact absurd h3 (by decide))).trans hp7) rfl
                     clear hE3 hb7 p0 p1 d1 lx ldx hp7
                     generalize w7.setRow xb cs3 = w8 at st3 HE4 HX8 HB38 HBF8 p08
                     generalize (nextE iv x r).1 = wk at HW
                     unfold sv
                     by_cases hw : wk = k
                     · have HSTEP := Lib.hid (show stepP z org fmt len (l.take j) (k, r) = true by unfold stepP; rw [HAL1.out, HPOK.out, HW.out]; simp [hw])
                       have g : (wk == k) = true := by simp [hw]
                       have gn : (wk != k) = false := by simp [hw]
                       clear hw
                       go_wp2_with fail
                       go_roundw
                       case rel => exact ⟨j + 1, cs3, by omega, by go_num, HYES.out HSTEP.out, fun _ => by rw [HIVN.out, HBT1.out]; exact HE4.out, HX8.out, HE3.out.size, HB38.out⟩
                       case measure => simp [intOf]; omega
                     · have H := Lib.hid (HNO.out (show stepP z org fmt len (l.take j) (k, r) = false by unfold stepP; rw [HAL1.out, HPOK.out, HW.out]; simp [hw]))
                       have g : (wk == k) = false := by simp [hw]
                       have gn : (wk != k) = true := by simp [hw]
                       clear hw
                       go_wp2_with fail
                       go_ret
                       exact ⟨by rw [H.out]; rfl, HBF8.out⟩
                   · have e0 : (org == 0) = false := by simp [h0]
                     have e1 : (org == 1) = false := by simp [h0]
                     have hn1 : org ≠ 1 := by omega
                     have HSTEP := Lib.hid (show stepP z org fmt len (l.take j) (k, r) = true by unfold stepP; rw [HAL1.out, HPOK.out]; unfold wantP; rw [if_neg (by omega), if_neg hn1]; simp)
                     have g : (k == k) = true := by simp
                     have gn : (k != k) = false := by simp
                     clear h0
                     go_wp2_with fail
                     go_roundw
                     case rel => exact ⟨j + 1, cs, by omega, by go_num, HYES.out HSTEP.out, fun h => absurd h hn1, HX6.out, HCS.out, HB36.out⟩
                     case measure => simp [intOf]; omega
                   · have e0 : (org == 0) = false := by simp [h0]
                     have e1 : (org == 1) = false := by simp [h0]
                     have hn1 : org ≠ 1 := by omega
                     have HSTEP := Lib.hid (show stepP z org fmt len (l.take j) (k, r) = true by unfold stepP; rw [HAL1.out, HPOK.out]; unfold wantP; rw [if_neg (by omega), if_neg hn1]; simp)
                     have g : (k == k) = true := by simp
                     have gn : (k != k) = false := by simp
                     clear h0
                     go_wp2_with fail
                     go_roundw
                     case rel => exact ⟨j + 1, cs, by omega, by go_num, HYES.out HSTEP.out, fun h => absurd h hn1, HX6.out, HCS.out, HB36.out⟩
                     case measure => simp [intOf]; omega
                 · have g0 : 0 < j := by omega
                   have g1 : (0 : Int) < (j : Int) := by omega
                   have hpv := HPV.out g0
                   have hqp := HQP.out g0
                   have q1 : IntKind.i64.wrap ((j : Int) - 1) = ((j - 1 : Nat) : Int) := by rw [IntWalk.i64_in _ (by omega)]; omega
                   have q2 : (j : Int) - 1 = ((j - 1 : Nat) : Int) := by omega
                   have q3 : j - 1 < l.length := by omega
                   generalize (l[j - 1]'(by omega)).1 = pk at hpv hqp
                   have TPV := fun d os => cell_regrown ((HB5.out.cell (p := ⟨b, off + (j - 1) * 2, none⟩) (block_lt_of_cell hqp)).trans hqp) d os
                   clear hqp
                   cases hlt2 : Op.bytesLess pk k with
                   | false =>
                     have H := Lib.hid (HNO.out (show stepP z org fmt len (l.take j) (k, r) = false by unfold stepP; rw [HAL1.out, hpv, hlt2]; rfl))
                     clear hpv
                     go_wp2_with fail
                     rw [← HW5.out]
                     refine wp_region_quiet_below (by kernel_rfl) (by kernel_rfl) ?_
                     repeat (go_big_quiet_step ((first | (go_at_call 41; exact Calls.regrown_of (HAL.out _ _)) | fail)))
                     refine wpQuiet_nil ?_
                     intro _ hw'
                     obtain ⟨⟨dq, osq⟩, hw''⟩ := hw'
                     subst hw''
                     have HB56 := Lib.hid (below_regrown W5 dq osq)
                     generalize grow (redrawn W5 dq) osq = W6 at HB56 ⊢
                     have HB6 := Lib.hid (HB5.out.trans (HB56.out.mono HB5.out.size))
                     have HBF := Lib.hid (HBT.out.trans (HB6.out.mono HBT.out.size))
                     clear TD T22 TP0 TP1 TPV
                     go_wp2_with fail
                     go_ret
                     exact ⟨by rw [H.out]; rfl, HBF.out⟩
                   | true =>
                     have HPOK := Lib.hid (hpv.trans hlt2)
                     clear hpv
                     go_wp2_with fail
                     rw [← HW5.out]
                     refine wp_region_quiet_below (by kernel_rfl) (by kernel_rfl) ?_
                     repeat (go_big_quiet_step ((first | (go_at_call 41; exact Calls.regrown_of (HAL.out _ _)) | fail)))
                     refine wpQuiet_nil ?_
                     intro _ hw'
                     obtain ⟨⟨dq, osq⟩, hw''⟩ := hw'
                     subst hw''
                     have HB56 := Lib.hid (below_regrown W5 dq osq)
                     generalize grow (redrawn W5 dq) osq = W6 at HB56 ⊢
                     have HB6 := Lib.hid (HB5.out.trans (HB56.out.mono HB5.out.size))
                     have HBF := Lib.hid (HBT.out.trans (HB6.out.mono HBT.out.size))
                     clear TD T22 TP0 TP1 TPV
                     clear g0 g1 q1 q2 q3 hlt2
                     have hp6 := (HB56.out.block _ (lt_of_block HP5.out)).trans HP5.out
                     have hd6 := (HB56.out.block _ (lt_of_block HD5.out)).trans HD5.out
                     have HX6 := Lib.hid ((HB6.out.block _ (lt_of_block HX.out)).trans HX.out)
                     have p0 := cell_at (i := 0) (v := .string ⟨k.toArray⟩) hp6 rfl
                     have p1 := cell_at (i := 1) (v := .string ⟨r.toArray⟩) hp6 rfl
                     have d1 := cell_at (i := 1) (v := .int .i64 org) hd6 rfl
                     have HP6 := Lib.hid hp6
                     have HD6 := Lib.hid hd6
                     have HB36 := Lib.hid (HB.out.trans (HB6.out.mono HB.out.size))
                     clear hp6 hd6
                     rcases desc_org HD.out with h0 | h0 | h0 | h0
                     · have e0 : (org == 0) = true := by simp [h0]
                       have hn1 : org ≠ 1 := by omega
                       have HSLO := Lib.hid (fun W => slot_any' (j + 1) ((j : Int) + 1) (by simp) W (by omega))
                       have HW := Lib.hid (show wantP org z.ivl.toNat (l.take j) (k, r) = slotB (j + 1) by unfold wantP; rw [if_pos h0, HTL.out])
                       clear h0
                       go_wp2_with fail
                       refine (HSLO.out _).mono ?_
                       rintro e w7 ⟨rfl, hb7⟩
                       have HB37 := Lib.hid (HB36.out.trans (hb7.mono HB36.out.size))
                       have HBF7 := Lib.hid (HBF.out.trans (hb7.mono HBF.out.size))
                       have HX7 := Lib.hid ((hb7.block _ (lt_of_block HX6.out)).trans HX6.out)
                       have p07 := cell_at (i := 0) (v := .string ⟨k.toArray⟩) ((hb7.block _ (lt_of_block HP6.out)).trans HP6.out) rfl
                       clear hb7 p0 p1 d1
                       unfold sv
                       by_cases hw : slotB (j + 1) = k
                       · have HSTEP := Lib.hid (show stepP z org fmt len (l.take j) (k, r) = true by unfold stepP; rw [HAL1.out, HPOK.out, HW.out]; simp [hw])
                         have g : (slotB (j + 1) == k) = true := by simp [hw]
                         have gn : (slotB (j + 1) != k) = false := by simp [hw]
                         clear hw
                         go_wp2_with fail
                         go_roundw
                         case rel => exact ⟨j + 1, cs, by omega, by go_num, HYES.out HSTEP.out, fun h => absurd h hn1, HX7.out, HCS.out, HB37.out⟩
                         case measure => simp [intOf]; omega
                       · have H := Lib.hid (HNO.out (show stepP z org fmt len (l.take j) (k, r) = false by unfold stepP; rw [HAL1.out, HPOK.out, HW.out]; simp [hw]))
                         have g : (slotB (j + 1) == k) = false := by simp [hw]
                         have gn : (slotB (j + 1) != k) = true := by simp [hw]
                         clear hw
                         go_wp2_with fail
                         go_ret
                         exact ⟨by rw [H.out]; rfl, HBF7.out⟩
                     · have e0 : (org == 0) = false := by simp [h0]
                       have e1 : (org == 1) = true := by simp [h0]
                       obtain ⟨iv, hiv, hiv1, hiv2⟩ := kval_ivl (desc_kval HD.out (by omega))
                       have hivn : z.ivl.toNat = iv := by rw [hiv]; simp
                       have HE1 := Lib.hid (HE.out h0)
                       have HFW := Lib.hid (behind_few iv (l.take j) (by rw [HTL.out]; omega) (fun q hq => (HK.out q (List.mem_of_mem_take hq)).2))
                       have HW := Lib.hid (show wantP org z.ivl.toNat (l.take j) (k, r) = (nextE iv (behindE iv (l.take j)) r).1 by unfold wantP; rw [if_neg (by omega), if_pos h0, hivn])
                       rw [hivn] at HE1 HBT1
                       have HIV := Lib.hid hiv
                       clear hiv
                       have HIVN := Lib.hid hivn
                       clear hivn
                       generalize behindE iv (l.take j) = x at HE1 HBT1 HFW HW
                       have lx := loadEn_at HX6.out HCS.out
                       have ldx := loadDs_at HD6.out rfl
                       have HNX := Lib.hid (next_any (z := z) W6 wr.heap.size x cs org fmt len blk iv r (HE1.out.below HB6.out) HB6.out.size HIV.out hiv1 hiv2 HFW.out.page HFW.out.on HFW.out.each hkr HFW.out.used)
                       have h01 := h0
                       have HO1 := Lib.hid h0
                       clear h0 h01
                       go_wp2_with fail
                       refine HNX.out.mono ?_
                       rintro e w7 ⟨⟨cs3, rfl, hE3⟩, hb7⟩
                       have HE3 := Lib.hid hE3
                       have HX7 := Lib.hid ((hb7.block _ (lt_of_block HX6.out)).trans HX6.out)
                       have hp7 := (hb7.block _ (lt_of_block HP6.out)).trans HP6.out
                       have HB37 := Lib.hid (HB36.out.trans (hb7.mono HB36.out.size))
                       have HBF7 := Lib.hid (HBF.out.trans (hb7.mono HBF.out.size))
                       have st3 : (storeEn ⟨xb, 0, none⟩ (.agg cs3)).run Tryz.prog w7 = .ok () (w7.setRow xb cs3) := storeEn_at HX7.out HE3.out.size (by rw [HE3.out.size, HCS.out]) HE3.out.one
                       have HE4 := Lib.hid ((HE3.out.setRow (cs' := cs3) (by obtain ⟨A0, C0, h9, _⟩ := HE1.out.ex; exact ⟨A0, C0, h9⟩) HX7.out (Nat.le_refl _)).mono (show w7.heap.size ≤ (w7.setRow xb cs3).heap.size by simp))
                       have HX8 := Lib.hid (setRow_heap w7 xb _ cs3 _ _ HX7.out)
                       have HB38 := Lib.hid (below_setRow HB37.out (show w3.heap.size ≤ xb by rw [HXB.out]; exact Nat.le_refl _) cs3)
                       have HBF8 := Lib.hid (below_setRow HBF7.out (show w.heap.size ≤ xb by rw [HXB.out]; have := HZ3.out; omega) cs3)
                       have p08 := cell_at (i := 0) (v := .string ⟨k.toArray⟩) ((heap_setRow_other' w7 (g := xb) cs3 (lt_of_block hp7) (fun e => by
                         have h1 := hp7
                         rw [e, HX7.out] at h1
                         injection h1 with h1
                         injection h1 with h2 h3
                         exact absurd h3 (by decide))).trans hp7) rfl
                       clear hE3 hb7 p0 p1 d1 lx ldx hp7
                       generalize w7.setRow xb cs3 = w8 at st3 HE4 HX8 HB38 HBF8 p08
                       generalize (nextE iv x r).1 = wk at HW
                       unfold sv
                       by_cases hw : wk = k
                       · have HSTEP := Lib.hid (show stepP z org fmt len (l.take j) (k, r) = true by unfold stepP; rw [HAL1.out, HPOK.out, HW.out]; simp [hw])
                         have g : (wk == k) = true := by simp [hw]
                         have gn : (wk != k) = false := by simp [hw]
                         clear hw
                         go_wp2_with fail
                         go_roundw
                         case rel => exact ⟨j + 1, cs3, by omega, by go_num, HYES.out HSTEP.out, fun _ => by rw [HIVN.out, HBT1.out]; exact HE4.out, HX8.out, HE3.out.size, HB38.out⟩
                         case measure => simp [intOf]; omega
                       · have H := Lib.hid (HNO.out (show stepP z org fmt len (l.take j) (k, r) = false by unfold stepP; rw [HAL1.out, HPOK.out, HW.out]; simp [hw]))
                         have g : (wk == k) = false := by simp [hw]
                         have gn : (wk != k) = true := by simp [hw]
                         clear hw
                         go_wp2_with fail
                         go_ret
                         exact ⟨by rw [H.out]; rfl, HBF8.out⟩
                     · have e0 : (org == 0) = false := by simp [h0]
                       have e1 : (org == 1) = false := by simp [h0]
                       have hn1 : org ≠ 1 := by omega
                       have HSTEP := Lib.hid (show stepP z org fmt len (l.take j) (k, r) = true by unfold stepP; rw [HAL1.out, HPOK.out]; unfold wantP; rw [if_neg (by omega), if_neg hn1]; simp)
                       have g : (k == k) = true := by simp
                       have gn : (k != k) = false := by simp
                       clear h0
                       go_wp2_with fail
                       go_roundw
                       case rel => exact ⟨j + 1, cs, by omega, by go_num, HYES.out HSTEP.out, fun h => absurd h hn1, HX6.out, HCS.out, HB36.out⟩
                       case measure => simp [intOf]; omega
                     · have e0 : (org == 0) = false := by simp [h0]
                       have e1 : (org == 1) = false := by simp [h0]
                       have hn1 : org ≠ 1 := by omega
                       have HSTEP := Lib.hid (show stepP z org fmt len (l.take j) (k, r) = true by unfold stepP; rw [HAL1.out, HPOK.out]; unfold wantP; rw [if_neg (by omega), if_neg hn1]; simp)
                       have g : (k == k) = true := by simp
                       have gn : (k != k) = false := by simp
                       clear h0
                       go_wp2_with fail
                       go_roundw
                       case rel => exact ⟨j + 1, cs, by omega, by go_num, HYES.out HSTEP.out, fun h => absurd h hn1, HX6.out, HCS.out, HB36.out⟩
                       case measure => simp [intOf]; omega
             · obtain rfl : j = l.length := by omega
               have H := Lib.hid (show valP z org fmt len blk ap l = true by rw [HR2.out]; exact valL_yes HST.out)
               go_wp2_with fail
               go_ret
               exact ⟨by rw [H.out]; rfl, HBT.out⟩
       · have g3 : decide ((1024 : Int) < (l.length : Int)) = true := by simp; omega
         have H := Lib.hid (show valP z org fmt len blk ap l = false by
           have e1 : decide (l.length ≤ 1024) = false := by simp; omega
           rw [HR.out, e1, Bool.and_false]; rfl)
         go_wp2_with fail
         go_ret
         exact ⟨by rw [H.out]; rfl, HB2.out⟩
end
end

end Go.Proofs.YtckpepfkfjdnhaaGreatDoor

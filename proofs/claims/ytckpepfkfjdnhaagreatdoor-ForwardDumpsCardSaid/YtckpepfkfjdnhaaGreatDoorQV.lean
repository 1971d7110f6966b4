/-
  Walk: what a change that puts a record does to pairs, by the program. Conditions: the description is valid; a row of the call's own; the laid table of segments' codes.
  Walk: what a change that puts a record does to pairs, by the program. Conditions: the description is valid; a row of the call's own; the laid table of segments' codes.
  Walks: what a change that erases, and one that empties, does to pairs, by the program. Conditions: a row of the call's own.
  Walk: what a change that appends a record does to pairs, by the program. Conditions: the description is valid; a row of the call's own; the laid table of segments' codes.
-/
import Derived.Test.YtckpepfkfjdnhaaGreatDoorQS
import Derived.Test.YtckpepfkfjdnhaaGreatDoorQU
import Derived.Test.YtckpepfkfjdnhaaGreatDoorQQ
import Derived.Deep.RegionHeld3
namespace Go.Proofs.YtckpepfkfjdnhaaGreatDoor

section
open Go.RowKit Go.Sort
variable {z : Rest}

def loadPr (p : Addr) : Sem Value := loadVar 46 p
theorem loadPr_down (p : Addr) : loadVar 46 p = loadPr p := rfl
theorem loadPr_at {w : World} {g : Nat} {cs : Array Value} {t : TypeId} {fr : Nat × Nat} (hg : w.heap[g]? = some (.cells cs t fr)) (hi : cs.size = 2) : (loadPr ⟨g, 0, none⟩).run Tryz.prog w = .ok (.agg cs) w :=
 run_loadVar_row (P := Tryz.prog) w g t 46 cs fr _ hg Tryz.underlying46 rfl (by rw [sizePr, hi])
def storePr (p : Addr) (v : Value) : Sem Unit := storeVar 46 p v
theorem storePr_down (p : Addr) (v : Value) : storeVar 46 p v = storePr p v := rfl
theorem storePr_mid {w : World} {g o : Nat} {x : Pr} {cur : Array Value} {t : TypeId} (hg : w.heap[g]? = some (.cells cur t (0, 0))) (hfit : o + 2 ≤ cur.size) :
   (storePr ⟨g, o, none⟩ (.agg #[.string ⟨x.1.toArray⟩, .string ⟨x.2.toArray⟩])).run Tryz.prog w = .ok () (w.setRow g (cur.toList.take o ++ encP x ++ cur.toList.drop (o + 2)).toArray) := by
 have hst := run_storeCells_at Tryz.prog g o t (encP x) 0 cur w hg (by simpa [encP] using hfit) (one_prs [x])
 have h2 : (encP x).length = 2 := rfl
 have h3 : #[Value.string ⟨x.1.toArray⟩, Value.string ⟨x.2.toArray⟩].toList = encP x := rfl
 rw [h2] at hst
 have hs := sizePr
 unfold storePr
 cases hq : Tryz.prog.info? 46 with
 | none => simp [hq] at hs
 | some i =>
   have hi : i.size = 2 := by simpa [hq] using hs
   simp only [Nat.add_zero] at hst
   have hc : (Value.agg #[.string ⟨x.1.toArray⟩, .string ⟨x.2.toArray⟩]).cells.toList = encP x := rfl
   simp [storeVar, sizeOf, typeInfo, hq, hi, Value.cells, ← h3] at hst ⊢
   simpa using hst
theorem storePr_at {w : World} {g : Nat} {x : Pr} {cur : Array Value} {t : TypeId} (hg : w.heap[g]? = some (.cells cur t (0, 0))) (hs : cur.size = 2) :
   (storePr ⟨g, 0, none⟩ (.agg #[.string ⟨x.1.toArray⟩, .string ⟨x.2.toArray⟩])).run Tryz.prog w = .ok () (w.setRow g #[.string ⟨x.1.toArray⟩, .string ⟨x.2.toArray⟩]) := by
 rw [storePr_mid hg (by omega)]
 congr 2
 have : cur.toList.drop (0 + 2) = [] := List.drop_eq_nil_of_le (by simp; omega)
 rw [this]; simp [encP]

/-- The description, the change and the pair in their blocks. -/
structure EffSt (w W : World) (z : Rest) (org fmt len blk kind id : Int) (key rec vol : By) (x : Pr) : Prop where
 ds : W.heap[w.heap.size]? = some (.cells (dsv z org fmt len blk) 23 (0, 0))
 ch : W.heap[w.heap.size + 1]? = some (.cells (chC kind id key rec vol) 28 (0, 0))
 pr : W.heap[w.heap.size + 2]? = some (.cells #[.string ⟨x.1.toArray⟩, .string ⟨x.2.toArray⟩] 46 (0, 0))
 bel : Below w.heap.size w W
 size : W.heap.size = w.heap.size + 3
theorem eff_start (w : World) (org fmt len blk kind id : Int) (key rec vol : By) (x : Pr) : ∃ W, (storePr ⟨w.heap.size + 2, 0, none⟩ (.agg #[.string ⟨x.1.toArray⟩, .string ⟨x.2.toArray⟩])).run Tryz.prog (((w.alloc (.cells (dsv z org fmt len blk) 23)).alloc (.cells (chC kind id key rec vol) 28)).alloc (.cells #[.string ⟨#[]⟩, .string ⟨#[]⟩] 46)) = .ok () W ∧ EffSt w W z org fmt len blk kind id key rec vol x := by
 have h0 := heap_alloc_new w (.cells (dsv z org fmt len blk) 23)
 have h1 := heap_alloc_new (w.alloc (.cells (dsv z org fmt len blk) 23)) (.cells (chC kind id key rec vol) 28)
 have h2 := heap_alloc_new ((w.alloc (.cells (dsv z org fmt len blk) 23)).alloc (.cells (chC kind id key rec vol) 28)) (.cells #[.string ⟨#[]⟩, .string ⟨#[]⟩] 46)
 rw [show (w.alloc (.cells (dsv z org fmt len blk) 23)).heap.size = w.heap.size + 1 by simp] at h1
 rw [show ((w.alloc (.cells (dsv z org fmt len blk) 23)).alloc (.cells (chC kind id key rec vol) 28)).heap.size = w.heap.size + 2 by simp] at h2
 have k0 := ((halloc ((w.alloc (.cells (dsv z org fmt len blk) 23)).alloc (.cells (chC kind id key rec vol) 28)) (.cells #[.string ⟨#[]⟩, .string ⟨#[]⟩] 46) (by simp; omega)).trans (halloc (w.alloc (.cells (dsv z org fmt len blk) 23)) (.cells (chC kind id key rec vol) 28) (by simp))).trans h0
 have k1 := (halloc ((w.alloc (.cells (dsv z org fmt len blk) 23)).alloc (.cells (chC kind id key rec vol) 28)) (.cells #[.string ⟨#[]⟩, .string ⟨#[]⟩] 46) (by simp)).trans h1
 refine ⟨_, storePr_at h2 rfl, (heap_setRow_other' _ _ (lt_of_block k0) (by omega)).trans k0, (heap_setRow_other' _ _ (lt_of_block k1) (by omega)).trans k1, setRow_heap _ _ _ _ _ _ h2, below_setRow ((((Below.refl _ _).alloc (Nat.le_refl _) _).alloc (by simp) _).alloc (by simp; omega) _) (by omega) _, by simp⟩
theorem EffSt.below {w W W' : World} {org fmt len blk kind id : Int} {key rec vol : By} {x : Pr} (h : EffSt w W z org fmt len blk kind id key rec vol x) (hb : Below W.heap.size W W') :
   Below w.heap.size w W' ∧ W'.heap[w.heap.size]? = some (.cells (dsv z org fmt len blk) 23 (0, 0)) ∧ W'.heap[w.heap.size + 1]? = some (.cells (chC kind id key rec vol) 28 (0, 0)) ∧ W'.heap[w.heap.size + 2]? = some (.cells #[.string ⟨x.1.toArray⟩, .string ⟨x.2.toArray⟩] 46 (0, 0)) :=
 ⟨h.bel.trans (hb.mono h.bel.size), heap_below hb (lt_of_block h.ds) h.ds, heap_below hb (lt_of_block h.ch) h.ch, heap_below hb (lt_of_block h.pr) h.pr⟩

/-- What a put leaves. -/
def putL (z : Rest) (org fmt len : Int) (l : List Pr) (x : Pr) : Int × List Pr :=
 if dirP org = false then (7, []) else if alP z org fmt len x = false then (2, []) else (0, if hasL x.1 l = true then l.set (posL x.1 l) x else l.take (posL x.1 l) ++ x :: l.drop (posL x.1 l))
def EffRet (base : Nat) (w : World) (r : Int × List Pr) (e : Ending) (w' : World) : Prop := ∃ v', e = .returned (.tuple #[v', .int .i64 r.1]) ∧ PrRow w' base v' r.2 ∧ Below base w w'
end

section
open Go.RowKit Go.Sort
variable {z : Rest}

theorem row_own_lt {w : World} {base : Nat} {e : TypeId} {size : Nat} {v : Value} {n : Nat} {xs : List Value} (h : w.ownsRow base e size v n xs) {k : Nat} (hk : v.ownBlock = some k) : k < w.heap.size := by
 rcases h.2 with ⟨rfl, _⟩ | ⟨g, cap, cur, rfl, _, hb, _⟩
 · simp [Value.ownBlock] at hk
 · have : g = k := Option.some.inj hk
   subst this; exact lt_of_block hb
theorem hasL_lt {k : By} {l : List Pr} (h : hasL k l = true) : posL k l < l.length := by
 unfold hasL at h
 split at h
 · rename_i q hq; exact (List.getElem?_eq_some_iff.1 hq).1
 · cases h
theorem prsF_set : ∀ (l : List Pr) (i : Nat) (x : Pr), i < l.length → prsF (l.set i x) = (prsF l).take (i * 2) ++ encP x ++ (prsF l).drop (i * 2 + 2)
 | [], i, x, h => by simp at h
 | y :: l, 0, x, _ => by simp [prsF, encP]
 | y :: l, i + 1, x, h => by
   rw [List.set_cons_succ, prsF, prsF_set l i x (by simpa using h), prsF, show (i + 1) * 2 = i * 2 + 1 + 1 by omega, show i * 2 + 1 + 1 + 2 = i * 2 + 2 + 1 + 1 by omega]
   simp
theorem set_row {w : World} {base g cap : Nat} {cur : Array Value} {l : List Pr} {i : Nat} {x : Pr} (hb : base ≤ g) (hblk : w.heap[g]? = some (.cells cur 46 (0, 0))) (q1 : l.length ≤ cap) (q2 : cap ≤ maxLen) (q3 : cur.size = cap * 2) (q4 : cur.toList.take (l.length * 2) = prsF l) (hi : i < l.length) :
   PrRow (w.setRow g (cur.toList.take (i * 2) ++ encP x ++ cur.toList.drop (i * 2 + 2)).toArray) base (.slice (some ⟨g, 0, none⟩) l.length cap) (l.set i x) := by
 have he : (encP x).length = 2 := rfl
 have hcl : cur.toList.length = cap * 2 := by simpa using q3
 refine ⟨prsF_len _, Or.inr ⟨g, cap, _, by simp, hb, setRow_heap _ _ _ _ _ _ hblk, by simpa using q1, q2, ?_, ?_⟩⟩
 · rw [List.size_toArray]
   simp only [List.length_append, List.length_take, List.length_drop, he, hcl]; omega
 · rw [prsF_set l i x hi, ← q4, List.length_set]
   show (cur.toList.take (i * 2) ++ encP x ++ cur.toList.drop (i * 2 + 2)).take (l.length * 2) = _
   rw [List.append_assoc, List.take_append, List.take_append, List.take_take, List.length_take, List.take_take, List.append_assoc, hcl, Nat.min_eq_left (show i * 2 ≤ cap * 2 by omega), Nat.min_eq_right (show i * 2 ≤ l.length * 2 by omega), Nat.min_eq_left (show i * 2 ≤ l.length * 2 by omega), he, List.take_of_length_le (show (encP x).length ≤ l.length * 2 - i * 2 by rw [he]; omega), List.drop_take, show l.length * 2 - i * 2 - 2 = l.length * 2 - (i * 2 + 2) by omega]

section
attribute [local go_sem ↓] loadDs_down loadPr_down storePr_down
set_option maxRecDepth 100000 in
set_option maxHeartbeats 4000000 in
theorem eput_any (w : World) (base : Nat) (v : Value) (l : List Pr) (org fmt len blk kind id : Int) (key rec vol : By) (ho : PrRow w base v l) (hb : base ≤ w.heap.size) (hl : l.length ≤ 5000) (hd : descP z org fmt len blk = true) (hc0 : Codes w) (hk : key.length ≤ 1000000) (hr : rec.length ≤ 1000000) :
   Calls Tryz.prog 115 #[.agg (dsv z org fmt len blk), v, .agg (chC kind id key rec vol)] w fun e w' => EffRet base w (putL z org fmt len l (key, rec)) e w' := by
 obtain ⟨W, st, hE⟩ := eff_start (z := z) w org fmt len blk kind id key rec vol (key, rec)
 have hch : ((w.alloc (.cells (dsv z org fmt len blk) 23)).alloc (.cells (chC kind id key rec vol) 28)).heap[w.heap.size + 1]? = some (.cells (chC kind id key rec vol) 28 (0, 0)) := by
   have h1 := heap_alloc_new (w.alloc (.cells (dsv z org fmt len blk) 23)) (.cells (chC kind id key rec vol) 28)
   simpa using h1
 have c2 := cell_at (i := 2) (v := .string ⟨key.toArray⟩) hch rfl
 have c3 := cell_at (i := 3) (v := .string ⟨rec.toArray⟩) hch rfl
 have ld := loadDs_at hE.ds rfl
 have HE := Lib.hid hE
 have HO := Lib.hid ho
 have HCO := Lib.hid (hc0.below hE.bel hc0.pos)
 have HDI := Lib.hid (direct_any (z := z) org fmt len blk W)
 have HPU := Lib.hid (show putL z org fmt len l (key, rec) = if dirP org = false then (7, []) else if alP z org fmt len (key, rec) = false then (2, []) else (0, if hasL key l = true then l.set (posL key l) (key, rec) else l.take (posL key l) ++ (key, rec) :: l.drop (posL key l)) from rfl)
 obtain ⟨a, cap, rfl, hcap, hcm, hP⟩ := prs_of_row ho
 have HS := Lib.hid hP
 clear hE ho hc0 hch hP
 cases hdi : dirP org with
 | false =>
   rw [hdi] at HDI HPU
   have H := Lib.hid (show putL z org fmt len l (key, rec) = (7, []) by rw [HPU.out]; rfl)
   clear hdi
   go_enter Tryz.func115, Tryz.ntmps115
   go_wp2_with fail
   refine HDI.out.mono ?_
   rintro e w2 ⟨rfl, hb2⟩
   have HB2 := Lib.hid (HE.out.below hb2)
   clear st c2 c3 ld hb2
   go_wp2_with fail
   go_ret2
   exact ⟨_, by rw [H.out]; rfl, by rw [H.out]; exact own_nil _ _ _ _, HB2.out.1.mono hb⟩
 | true =>
   rw [hdi] at HDI HPU
   clear hdi
   cases hal : alP z org fmt len (key, rec) with
   | false =>
     rw [hal] at HPU
     have H := Lib.hid (show putL z org fmt len l (key, rec) = (2, []) by rw [HPU.out]; rfl)
     have HAL := Lib.hid hal
     clear hal
     go_enter Tryz.func115, Tryz.ntmps115
     go_wp2_with fail
     refine HDI.out.mono ?_
     rintro e w2 ⟨rfl, hb2⟩
     have HB2 := Lib.hid (HE.out.below hb2)
     have ld2 := loadDs_at HB2.out.2.1 rfl
     have lp2 := loadPr_at HB2.out.2.2.2 rfl
     have HALL := Lib.hid (allowed49_any (z := z) org fmt len blk (key, rec) w2 hd (HCO.out.below hb2 HCO.out.pos) hk hr)
     rw [HAL.out] at HALL
     clear st c2 c3 ld
     go_wp2_with fail
     refine HALL.out.mono ?_
     rintro e w3 ⟨rfl, hb3⟩
     have HB3 := Lib.hid (HE.out.bel.trans ((hb2.trans (hb3.mono hb2.size)).mono HE.out.bel.size))
     clear ld2 lp2 hb3 hb2
     go_wp2_with fail
     go_ret2
     exact ⟨_, by rw [H.out]; rfl, by rw [H.out]; exact own_nil _ _ _ _, HB3.out.mono hb⟩
   | true =>
     rw [hal] at HPU
     have HPU2 := Lib.hid (show putL z org fmt len l (key, rec) = (0, if hasL key l = true then l.set (posL key l) (key, rec) else l.take (posL key l) ++ (key, rec) :: l.drop (posL key l)) by rw [HPU.out]; rfl)
     have HAL := Lib.hid hal
     clear hal HPU
     go_enter Tryz.func115, Tryz.ntmps115
     go_wp2_with fail
     refine HDI.out.mono ?_
     rintro e w2 ⟨rfl, hb2⟩
     have HB2 := Lib.hid (HE.out.below hb2)
     have ld2 := loadDs_at HB2.out.2.1 rfl
     have lp2 := loadPr_at HB2.out.2.2.2 rfl
     have HALL := Lib.hid (allowed49_any (z := z) org fmt len blk (key, rec) w2 hd (HCO.out.below hb2 HCO.out.pos) hk hr)
     rw [HAL.out] at HALL
     clear st c2 c3 ld
     go_wp2_with fail
     refine HALL.out.mono ?_
     rintro e w3 ⟨rfl, hb3⟩
     have HB3 := Lib.hid (HE.out.below (hb2.trans (hb3.mono hb2.size)))
     have c23 := cell_at (i := 2) (v := .string ⟨key.toArray⟩) HB3.out.2.2.1 rfl
     have HFI := Lib.hid (find_any key w3 w.heap.size a cap l (HS.out.below HB3.out.1) HB3.out.1.size (by omega) hcap)
     have HSZ2 := Lib.hid hb2.size
     have HSZ3 := Lib.hid hb3.size
     clear ld2 lp2 hb3 hb2 HALL
     cases hh : hasL key l with
     | true =>
       have hlt := hasL_lt hh
       rw [hh] at HPU2 HFI
       have H := Lib.hid (show putL z org fmt len l (key, rec) = (0, l.set (posL key l) (key, rec)) by rw [HPU2.out]; rfl)
       clear hh HPU2
       obtain ⟨i, hi⟩ : ∃ i, i = posL key l := ⟨_, rfl⟩
       rw [← hi] at hlt HFI H
       clear hi
       go_wp2_with fail
       refine HFI.out.mono ?_
       rintro e w4 ⟨rfl, hb4⟩
       have HB4 := Lib.hid (HB3.out.1.trans (hb4.mono HB3.out.1.size))
       have lp4 := loadPr_at (heap_below hb4 (lt_of_block HB3.out.2.2.2) HB3.out.2.2.2) rfl
       obtain ⟨g, cur, hae, hbase, hblk, q3, q4⟩ : ∃ g cur, a = some ⟨g, 0, none⟩ ∧ base ≤ g ∧ w.heap[g]? = some (.cells cur 46 (0, 0)) ∧ cur.size = cap * 2 ∧ cur.toList.take (l.length * 2) = prsF l := by
         rcases HO.out.2 with ⟨h1, h2⟩ | ⟨g, c, cur, h1, h2, h3, h4, h5, h6, h7⟩
         · exfalso; omega
         · have e1 : a = some ⟨g, 0, none⟩ := by injection h1
           have e2 : cap = c := by injection h1
           subst e2
           exact ⟨g, cur, e1, h2, h3, h6, h7⟩
       subst hae
       have hblk4 := heap_below HB4.out (lt_of_block hblk) hblk
       have st4 := storePr_mid (x := (key, rec)) (o := i * 2) hblk4 (by omega)
       have HF := Lib.hid (set_row (x := (key, rec)) hbase hblk4 hcap hcm q3 q4 hlt)
       have HBF := Lib.hid (below_setRow (HB4.out.mono hb) hbase (cur.toList.take (i * 2) ++ encP (key, rec) ++ cur.toList.drop (i * 2 + 2)).toArray)
       have hltI : (i : Int) < (l.length : Int) := by omega
       clear hb4 c23 hblk hblk4 q3 q4
       generalize w4.setRow g (cur.toList.take (i * 2) ++ encP (key, rec) ++ cur.toList.drop (i * 2 + 2)).toArray = W5 at st4 HF HBF
       go_wp2_with fail
       go_ret2
       exact ⟨_, by rw [H.out]; rfl, by rw [H.out]; exact HF.out, HBF.out⟩
     | false =>
       have hle := posL_le key l
       rw [hh] at HPU2 HFI
       have H := Lib.hid (show putL z org fmt len l (key, rec) = (0, l.take (posL key l) ++ (key, rec) :: l.drop (posL key l)) by rw [HPU2.out]; rfl)
       clear hh HPU2
       obtain ⟨i, hi⟩ : ∃ i, i = posL key l := ⟨_, rfl⟩
       rw [← hi] at hle HFI H
       clear hi
       go_wp2_with fail
       refine HFI.out.mono ?_
       rintro e w4 ⟨rfl, hb4⟩
       have HB4 := Lib.hid (HB3.out.1.trans (hb4.mono HB3.out.1.size))
       have lp4 := loadPr_at (heap_below hb4 (lt_of_block HB3.out.2.2.2) HB3.out.2.2.2) rfl
       have HRO := Lib.hid (show PrRow (w4.alloc (.cells #[.string ⟨key.toArray⟩, .string ⟨rec.toArray⟩] 46)) base (.slice a l.length cap) l from own_below HO.out (HB4.out.trans (box_below w4 _ _ |>.mono HB4.out.size)))
       have HIN := Lib.hid (insert_any (w4.alloc (.cells #[.string ⟨key.toArray⟩, .string ⟨rec.toArray⟩] 46)) base (.slice a l.length cap) l i (key, rec) w4.heap.size HRO.out (by have := HB4.out.size; simp; omega) hle (by omega)
         (fun e => by have := row_own_lt HO.out e; have := HB4.out.size; omega) (heap_alloc_new w4 _))
       have HB5 := Lib.hid ((HB4.out.trans (box_below w4 #[.string ⟨key.toArray⟩, .string ⟨rec.toArray⟩] 46 |>.mono HB4.out.size)).mono hb)
       clear hb4 c23
       go_wp2_with fail
       refine HIN.out.mono ?_
       rintro e w6 ⟨v6, rfl, ho6, hb6⟩
       have HO6 := Lib.hid ho6
       have HB6 := Lib.hid (HB5.out.trans hb6)
       clear ho6 hb6 lp4
       go_wp2_with fail
       go_ret2
       exact ⟨_, by rw [H.out]; rfl, by rw [H.out]; exact HO6.out, HB6.out⟩
end
end

section
open Go.RowKit Go.Sort
variable {z : Rest}

/-- What an erase leaves. -/
def eraL (z : Rest) (org : Int) (l : List Pr) (key : By) : Int × List Pr :=
 if dirP org = false then (7, []) else if possP z org key = false then (2, []) else (0, if hasL key l = true then l.eraseIdx (posL key l) else l)
/-- The description and the change in their blocks. -/
structure TwoSt (w W : World) (z : Rest) (org fmt len blk kind id : Int) (key rec vol : By) : Prop where
 ds : W.heap[w.heap.size]? = some (.cells (dsv z org fmt len blk) 23 (0, 0))
 ch : W.heap[w.heap.size + 1]? = some (.cells (chC kind id key rec vol) 28 (0, 0))
 bel : Below w.heap.size w W
 size : W.heap.size = w.heap.size + 2
theorem two_start (w : World) (org fmt len blk kind id : Int) (key rec vol : By) : TwoSt w ((w.alloc (.cells (dsv z org fmt len blk) 23)).alloc (.cells (chC kind id key rec vol) 28)) z org fmt len blk kind id key rec vol := by
 have h0 := heap_alloc_new w (.cells (dsv z org fmt len blk) 23)
 have h1 := heap_alloc_new (w.alloc (.cells (dsv z org fmt len blk) 23)) (.cells (chC kind id key rec vol) 28)
 rw [show (w.alloc (.cells (dsv z org fmt len blk) 23)).heap.size = w.heap.size + 1 by simp] at h1
 exact ⟨(halloc _ _ (by simp)).trans h0, h1, ((Below.refl _ _).alloc (Nat.le_refl _) _).alloc (by simp) _, by simp⟩
theorem TwoSt.below {w W W' : World} {org fmt len blk kind id : Int} {key rec vol : By} (h : TwoSt w W z org fmt len blk kind id key rec vol) (hb : Below W.heap.size W W') :
   Below w.heap.size w W' ∧ W'.heap[w.heap.size]? = some (.cells (dsv z org fmt len blk) 23 (0, 0)) ∧ W'.heap[w.heap.size + 1]? = some (.cells (chC kind id key rec vol) 28 (0, 0)) :=
 ⟨h.bel.trans (hb.mono h.bel.size), heap_below hb (lt_of_block h.ds) h.ds, heap_below hb (lt_of_block h.ch) h.ch⟩

section
attribute [local go_sem ↓] loadDs_down loadPr_down storePr_down
set_option maxRecDepth 100000 in
set_option maxHeartbeats 4000000 in
theorem empty_any (w : World) (base : Nat) (v : Value) (org fmt len blk kind id : Int) (key rec vol : By) (hb : base ≤ w.heap.size) :
   Calls Tryz.prog 124 #[.agg (dsv z org fmt len blk), v, .agg (chC kind id key rec vol)] w fun e w' => EffRet base w (0, []) e w' := by
 have HE := Lib.hid (two_start (z := z) w org fmt len blk kind id key rec vol)
 go_enter Tryz.func124, Tryz.ntmps124
 go_wp2_with fail
 go_ret2
 exact ⟨_, rfl, own_nil _ _ _ _, HE.out.bel.mono hb⟩

set_option maxRecDepth 100000 in
set_option maxHeartbeats 4000000 in
theorem erase_any (w : World) (base : Nat) (v : Value) (l : List Pr) (org fmt len blk kind id : Int) (key rec vol : By) (ho : PrRow w base v l) (hb : base ≤ w.heap.size) (hl : l.length ≤ 5000) (hk : key.length ≤ 1000000) :
   Calls Tryz.prog 119 #[.agg (dsv z org fmt len blk), v, .agg (chC kind id key rec vol)] w fun e w' => EffRet base w (eraL z org l key) e w' := by
 obtain ⟨W, hW⟩ : ∃ W, W = (w.alloc (.cells (dsv z org fmt len blk) 23)).alloc (.cells (chC kind id key rec vol) 28) := ⟨_, rfl⟩
 have hE : TwoSt w W z org fmt len blk kind id key rec vol := by rw [hW]; exact two_start w org fmt len blk kind id key rec vol
 have HW := Lib.hid hW
 have c2 := cell_at (i := 2) (v := .string ⟨key.toArray⟩) hE.ch rfl
 have ld := loadDs_at hE.ds rfl
 have HE := Lib.hid hE
 have HO := Lib.hid ho
 have HDI := Lib.hid (direct_any (z := z) org fmt len blk W)
 have HPU := Lib.hid (show eraL z org l key = if dirP org = false then (7, []) else if possP z org key = false then (2, []) else (0, if hasL key l = true then l.eraseIdx (posL key l) else l) from rfl)
 obtain ⟨a, cap, rfl, hcap, hcm, hP⟩ := prs_of_row ho
 have HS := Lib.hid hP
 clear hE ho hP hW
 cases hdi : dirP org with
 | false =>
   rw [hdi] at HDI HPU
   have H := Lib.hid (show eraL z org l key = (7, []) by rw [HPU.out]; rfl)
   clear hdi
   go_enter Tryz.func119, Tryz.ntmps119
   go_upto_region 1 with fail
   rw [← HW.out]
   go_wp2_with fail
   refine HDI.out.mono ?_
   rintro e w2 ⟨rfl, hb2⟩
   have HB2 := Lib.hid (HE.out.below hb2)
   clear c2 ld hb2
   go_wp2_with fail
   go_ret2
   exact ⟨_, by rw [H.out]; rfl, by rw [H.out]; exact own_nil _ _ _ _, HB2.out.1.mono hb⟩
 | true =>
   rw [hdi] at HDI HPU
   clear hdi
   cases hal : possP z org key with
   | false =>
     rw [hal] at HPU
     have H := Lib.hid (show eraL z org l key = (2, []) by rw [HPU.out]; rfl)
     have HAL := Lib.hid hal
     clear hal
     go_enter Tryz.func119, Tryz.ntmps119
     go_upto_region 1 with fail
     rw [← HW.out]
     go_wp2_with fail
     refine HDI.out.mono ?_
     rintro e w2 ⟨rfl, hb2⟩
     have HB2 := Lib.hid (HE.out.below hb2)
     have ld2 := loadDs_at HB2.out.2.1 rfl
     have c22 := cell_at (i := 2) (v := .string ⟨key.toArray⟩) HB2.out.2.2 rfl
     have HALL := Lib.hid (possible_any (z := z) org fmt len blk key w2 hk)
     rw [HAL.out] at HALL
     clear c2 ld
     go_wp2_with fail
     refine HALL.out.mono ?_
     rintro e w3 ⟨rfl, hb3⟩
     have HB3 := Lib.hid (HE.out.bel.trans ((hb2.trans (hb3.mono hb2.size)).mono HE.out.bel.size))
     clear ld2 c22 hb3 hb2
     go_wp2_with fail
     go_ret2
     exact ⟨_, by rw [H.out]; rfl, by rw [H.out]; exact own_nil _ _ _ _, HB3.out.mono hb⟩
   | true =>
     rw [hal] at HPU
     have HPU2 := Lib.hid (show eraL z org l key = (0, if hasL key l = true then l.eraseIdx (posL key l) else l) by rw [HPU.out]; rfl)
     have HAL := Lib.hid hal
     clear hal HPU
     go_enter Tryz.func119, Tryz.ntmps119
     go_upto_region 1 with fail
     rw [← HW.out]
     go_wp2_with fail
     refine HDI.out.mono ?_
     rintro e w2 ⟨rfl, hb2⟩
     have HB2 := Lib.hid (HE.out.below hb2)
     have ld2 := loadDs_at HB2.out.2.1 rfl
     have c22 := cell_at (i := 2) (v := .string ⟨key.toArray⟩) HB2.out.2.2 rfl
     have HALL := Lib.hid (possible_any (z := z) org fmt len blk key w2 hk)
     rw [HAL.out] at HALL
     clear c2 ld
     go_wp2_with fail
     refine HALL.out.mono ?_
     rintro e w3 ⟨rfl, hb3⟩
     have HB3 := Lib.hid (HE.out.below (hb2.trans (hb3.mono hb2.size)))
     have c23 := cell_at (i := 2) (v := .string ⟨key.toArray⟩) HB3.out.2.2 rfl
     have HFI := Lib.hid (find_any key w3 w.heap.size a cap l (HS.out.below HB3.out.1) HB3.out.1.size (by omega) hcap)
     clear ld2 c22 hb3 hb2 HALL
     cases hh : hasL key l with
     | true =>
       have hlt := hasL_lt hh
       rw [hh] at HPU2 HFI
       have H := Lib.hid (show eraL z org l key = (0, l.eraseIdx (posL key l)) by rw [HPU2.out]; rfl)
       clear hh HPU2
       obtain ⟨i, hi⟩ : ∃ i, i = posL key l := ⟨_, rfl⟩
       rw [← hi] at hlt HFI H
       clear hi
       go_wp2_with fail
       refine HFI.out.mono ?_
       rintro e w4 ⟨rfl, hb4⟩
       have HB4 := Lib.hid (HB3.out.1.trans (hb4.mono HB3.out.1.size))
       have HDE := Lib.hid (delete_any w4 base (.slice a l.length cap) l i (own_below HO.out HB4.out) hlt (by omega))
       have hw1 : IntKind.i64.wrap ((i : Int) + 1) = (i : Int) + 1 := by rw [IntKind.wrap_i64]; omega
       clear hb4 c23
       go_wp2_with fail
       refine HDE.out.mono ?_
       rintro e w6 ⟨v6, rfl, ho6, hb6⟩
       have HO6 := Lib.hid ho6
       have HB6 := Lib.hid ((HB4.out.mono hb).trans hb6)
       clear ho6 hb6
       go_wp2_with fail
       go_ret2
       exact ⟨_, by rw [H.out]; rfl, by rw [H.out]; exact HO6.out, HB6.out⟩
     | false =>
       rw [hh] at HPU2 HFI
       have H := Lib.hid (show eraL z org l key = (0, l) by rw [HPU2.out]; rfl)
       clear hh HPU2
       go_wp2_with fail
       refine HFI.out.mono ?_
       rintro e w4 ⟨rfl, hb4⟩
       have HB4 := Lib.hid (HB3.out.1.trans (hb4.mono HB3.out.1.size))
       clear hb4 c23
       go_wp2_with fail
       go_ret2
       exact ⟨_, by rw [H.out]; rfl, by rw [H.out]; exact own_below HO.out HB4.out, HB4.out.mono hb⟩
end
end

section
open Go.RowKit Go.Sort
variable {z : Rest}

/-- The key that an appended record gets. -/
def newK (z : Rest) (org : Int) (l : List Pr) (r : By) : By := if org = 1 then (nextE z.ivl.toNat (behindE z.ivl.toNat l) r).1 else slotB (l.length + 1)
theorem next_len (iv : Nat) (x : En) (r : By) : (nextE iv x r).1.length = 8 := by
 unfold nextE
 split <;> exact slot_len _
theorem newK_len (org : Int) (l : List Pr) (r : By) : (newK z org l r).length = 8 := by
 unfold newK
 split
 · exact next_len _ _ _
 · exact slot_len _
/-- What an append leaves. -/
def appL (z : Rest) (org fmt len : Int) (l : List Pr) (r : By) : Int × List Pr :=
 if dirP org = true then (7, []) else if alP z org fmt len (newK z org l r, r) = false then (2, []) else (0, l ++ [(newK z org l r, r)])

section
attribute [local go_sem ↓] loadDs_down loadPr_down storePr_down
set_option maxRecDepth 100000 in
set_option maxHeartbeats 4000000 in
theorem eappend_any (w : World) (base : Nat) (v : Value) (l : List Pr) (org fmt len blk kind id : Int) (key rec vol : By) (ho : PrRow w base v l) (hb : base ≤ w.heap.size) (hl : l.length ≤ 5000) (hd : descP z org fmt len blk = true) (hc0 : Codes w) (hr : rec.length ≤ 100000) (hkl : ∀ p ∈ l, p.2.length ≤ 100000) :
   Calls Tryz.prog 122 #[.agg (dsv z org fmt len blk), v, .agg (chC kind id key rec vol)] w fun e w' => EffRet base w (appL z org fmt len l rec) e w' := by
 obtain ⟨i0, hi0, hz0, hz1, hz2⟩ := info_parts infoPr
 obtain ⟨W, hW⟩ : ∃ W, W = (w.alloc (.cells (dsv z org fmt len blk) 23)).alloc (.cells (chC kind id key rec vol) 28) := ⟨_, rfl⟩
 have hE : TwoSt w W z org fmt len blk kind id key rec vol := by rw [hW]; exact two_start w org fmt len blk kind id key rec vol
 have HW := Lib.hid hW
 have ld := loadDs_at hE.ds rfl
 have HE := Lib.hid hE
 have HO := Lib.hid ho
 have HCO := Lib.hid (hc0.below hE.bel hc0.pos)
 have HDI := Lib.hid (direct_any (z := z) org fmt len blk W)
 have HPU := Lib.hid (show appL z org fmt len l rec = if dirP org = true then (7, []) else if alP z org fmt len (newK z org l rec, rec) = false then (2, []) else (0, l ++ [(newK z org l rec, rec)]) from rfl)
 have HKL := Lib.hid hkl
 have HNL := Lib.hid (newK_len (z := z) org l rec)
 obtain ⟨a, cap, rfl, hcap, hcm, hP⟩ := prs_of_row ho
 have HS := Lib.hid hP
 have hw1 : IntKind.i64.wrap ((l.length : Int) + 1) = (l.length : Int) + 1 := by rw [IntKind.wrap_i64]; omega
 clear hE ho hP hW hkl
 cases hdi : dirP org with
 | true =>
   rw [hdi] at HDI HPU
   have H := Lib.hid (show appL z org fmt len l rec = (7, []) by rw [HPU.out]; rfl)
   clear hdi
   go_enter Tryz.func122, Tryz.ntmps122
   go_upto_region 1 with fail
   rw [← HW.out]
   go_wp2_with fail
   refine HDI.out.mono ?_
   rintro e w2 ⟨rfl, hb2⟩
   have HB2 := Lib.hid (HE.out.below hb2)
   clear ld hb2
   go_wp2_with fail
   go_ret2
   exact ⟨_, by rw [H.out]; rfl, by rw [H.out]; exact own_nil _ _ _ _, HB2.out.1.mono hb⟩
 | false =>
   rw [hdi] at HDI HPU
   have HPU2 := Lib.hid (show appL z org fmt len l rec = if alP z org fmt len (newK z org l rec, rec) = false then (2, []) else (0, l ++ [(newK z org l rec, rec)]) by rw [HPU.out]; rfl)
   have HDIF := Lib.hid hdi
   clear hdi HPU
   have HOR := Lib.hid (show org = 0 ∨ org = 1 by
     have h0 := desc_org hd
     have h1 := HDIF.out
     unfold dirP at h1
     simp only [Bool.or_eq_false_iff, decide_eq_false_iff_not] at h1
     omega)
   go_enter Tryz.func122, Tryz.ntmps122
   go_upto_region 1 with fail
   rw [← HW.out]
   go_wp2_with fail
   refine HDI.out.mono ?_
   rintro e w2 ⟨rfl, hb2⟩
   have HB2 := Lib.hid (HE.out.below hb2)
   have HSL := Lib.hid (slot_any' (l.length + 1) ((l.length : Int) + 1) (by omega) w2 (by omega))
   clear ld
   go_wp2_with fail
   refine HSL.out.mono ?_
   rintro e w3 ⟨he3, hb3⟩
   obtain rfl : e = .returned (.string ⟨(slotB (l.length + 1)).toArray⟩) := he3
   have hb23 := hb2.trans (hb3.mono hb2.size)
   have HB3 := Lib.hid (HE.out.below hb23)
   have HCO3 := Lib.hid (HCO.out.below hb23 HCO.out.pos)
   have c13 := cell_at (i := 1) (v := .int .i64 org) HB3.out.2.1 rfl
   have c33 := cell_at (i := 3) (v := .string ⟨rec.toArray⟩) HB3.out.2.2 rfl
   clear hb2 hb3 hb23
   rcases HOR.out with ho0 | ho1
   · have e1 : (org == 1) = false := by rw [ho0]; rfl
     have HNK := Lib.hid (show newK z org l rec = slotB (l.length + 1) by unfold newK; rw [if_neg (by omega)])
     generalize slotB (l.length + 1) = kk at HNK ⊢
     clear ho0
     go_upto_region 6 with fail
     clear c13
     have HKK := Lib.hid (show kk.length = 8 by rw [← HNK.out]; exact HNL.out)
     have hz6 := heap_alloc_new w3 (.cells #[.string ⟨#[]⟩, .string ⟨#[]⟩] 46)
     have st6 := storePr_at (x := (kk, rec)) hz6 rfl
     have HP6 := Lib.hid (setRow_heap _ _ _ #[.string ⟨kk.toArray⟩, .string ⟨rec.toArray⟩] _ _ hz6)
     have HB6 := Lib.hid (below_setRow (box_below w3 #[.string ⟨#[]⟩, .string ⟨#[]⟩] 46) (Nat.le_refl _) #[.string ⟨kk.toArray⟩, .string ⟨rec.toArray⟩])
     generalize (w3.alloc (.cells #[.string ⟨#[]⟩, .string ⟨#[]⟩] 46)).setRow w3.heap.size #[.string ⟨kk.toArray⟩, .string ⟨rec.toArray⟩] = w6 at st6 HP6 HB6
     have HBA := Lib.hid (HB3.out.1.trans (HB6.out.mono HB3.out.1.size))
     have ld6 := loadDs_at (heap_below HB6.out (lt_of_block HB3.out.2.1) HB3.out.2.1) rfl
     have lp6 := loadPr_at HP6.out rfl
     have HAL := Lib.hid (allowed49_any (z := z) org fmt len blk (kk, rec) w6 hd (HCO3.out.below HB6.out HCO3.out.pos) (show kk.length ≤ 1000000 by have := HKK.out; omega) (show rec.length ≤ 1000000 by omega))
     clear hz6
     cases hal : alP z org fmt len (kk, rec) with
     | false =>
       rw [hal] at HAL
       have H := Lib.hid (show appL z org fmt len l rec = (2, []) by rw [HPU2.out, HNK.out, hal]; rfl)
       clear hal
       go_wp2_with fail
       refine HAL.out.mono ?_
       rintro e w7 ⟨rfl, hb7⟩
       have HB7 := Lib.hid (HBA.out.trans (hb7.mono HBA.out.size))
       clear st6 ld6 lp6 hb7
       go_wp2_with fail
       go_ret2
       exact ⟨_, by rw [H.out]; rfl, by rw [H.out]; exact own_nil _ _ _ _, HB7.out.mono hb⟩
     | true =>
       rw [hal] at HAL
       have H := Lib.hid (show appL z org fmt len l rec = (0, l ++ [(kk, rec)]) by rw [HPU2.out, HNK.out, hal]; rfl)
       clear hal
       go_wp2_with fail
       refine HAL.out.mono ?_
       rintro e w7 ⟨rfl, hb7⟩
       have HB7 := Lib.hid (HBA.out.trans (hb7.mono HBA.out.size))
       have lp7 := loadPr_at (heap_below hb7 (lt_of_block HP6.out) HP6.out) rfl
       have HO7 := Lib.hid (own_below HO.out (HB7.out.trans ((box_below w7 #[.string ⟨kk.toArray⟩, .string ⟨rec.toArray⟩] 46).mono HB7.out.size)))
       have HBZ := Lib.hid ((HB7.out.trans ((box_below w7 #[.string ⟨kk.toArray⟩, .string ⟨rec.toArray⟩] 46).mono HB7.out.size)).mono hb)
       have HNW := Lib.hid (show ∀ (j : Nat) (u : Value), (encP (kk, rec))[j]? = some u → (w7.alloc (.cells #[.string ⟨kk.toArray⟩, .string ⟨rec.toArray⟩] 46)).cell? ((⟨w7.heap.size, 0, none⟩ : Addr).add j) = some u from news_at (heap_alloc_new w7 _))
       have HSZ := Lib.hid (show base ≤ (w7.alloc (.cells #[.string ⟨kk.toArray⟩, .string ⟨rec.toArray⟩] 46)).heap.size by have := HB7.out.size; simp; omega)
       clear st6 ld6 lp6 hb7
       go_wp2_with (at_builtin; refine wpList_append_own _ rfl _ _ 24 rfl base 46 i0 (.agg #[.string ⟨#[]⟩, .string ⟨#[]⟩]) 2 32 Tryz.underlying24 hi0 hz0 hz1 hz2 rfl (by decide) _ _ _ rfl HO7.out _ 1 _ (encP (kk, rec)) rfl rfl HNW.out (one_prs [(kk, rec)]) ?b3 ?b4 ?b5 ?_)
       case b3 => unfold maxLen; omega
       case b4 => omega
       case b5 => exact HSZ.out
       intro v8 w8 ho8 hg8 _
       have HB8 := Lib.hid (HBZ.out.grown hg8 HSZ.out (fun k hk => row_own HO7.out hk))
       have HO8 := Lib.hid (show PrRow w8 base v8 (l ++ [(kk, rec)]) by unfold PrRow; rw [List.length_append, prsF_append]; exact ho8)
       clear ho8 hg8
       go_wp2_with fail
       go_ret2
       exact ⟨_, by rw [H.out]; rfl, by rw [H.out]; exact HO8.out, HB8.out⟩
   · subst ho1
     obtain ⟨iv, hiv, hiv1, hiv2⟩ := kval_ivl (desc_kval hd (by decide))
     have HIV := Lib.hid hiv
     have HNK := Lib.hid (show newK z 1 l rec = (nextE iv (behindE iv l) rec).1 by unfold newK; rw [if_pos rfl, hiv]; rfl)
     have HFW := Lib.hid (behind_few iv l (by omega) HKL.out)
     have HBE := Lib.hid (behind_any (z := z) w3.drew w.heap.size a cap l 1 fmt len blk iv ((HS.out.below HB3.out.1).below (below_drewN (Below.refl _ _) 1)) HB3.out.1.size hiv hiv1 hiv2 hl HKL.out)
     have ld3 : (loadDs ⟨w.heap.size, 0, none⟩).run Tryz.prog w3.drew = .ok (.agg (dsv z 1 fmt len blk)) w3.drew := loadDs_at (w := w3.drew) HB3.out.2.1 rfl
     have c33d : w3.drew.cell? ⟨w.heap.size + 1, 3, none⟩ = some (.string ⟨rec.toArray⟩) := c33
     clear hiv
     generalize behindE iv l = x at HNK HFW HBE
     go_upto_region 5 with fail
     go_cut [8] (fun k wx => k = .string ⟨(newK z 1 l rec).toArray⟩ ∧ Below w3.heap.size w3 wx)
     case first =>
       go_region_held3 (fun w' => (loadDs ⟨w.heap.size, 0, none⟩).run Tryz.prog w' = .ok (.agg (dsv z 1 fmt len blk)) w' ∧ w'.cell? ⟨w.heap.size + 1, 3, none⟩ = some (.string ⟨rec.toArray⟩)) (first | (with_reducible exact ⟨ld5, c35⟩) | (with_reducible exact ⟨ld4, c34⟩) | exact ⟨ld3, c33d⟩ | fail)
         ((first
           | (go_at_call 123
              (with_reducible refine HBE.out.mono ?_)
              rintro e w4 ⟨⟨cs, rfl, hen⟩, hb4⟩
              have HEN := Lib.hid hen
              have HB4 := Lib.hid (show Below w3.heap.size w3 w4 from below_drew1.trans hb4)
              have HD4 := Lib.hid (heap_below HB4.out (lt_of_block HB3.out.2.1) HB3.out.2.1)
              have HC4 := Lib.hid (heap_below HB4.out (lt_of_block HB3.out.2.2) HB3.out.2.2)
              have ld4 := loadDs_at HD4.out rfl
              have c34 := cell_at (i := 3) (v := .string ⟨rec.toArray⟩) HC4.out rfl
              have HNX := Lib.hid (next_any (z := z) w4 w4.heap.size x cs 1 fmt len blk iv rec HEN.out (Nat.le_refl _) HIV.out hiv1 hiv2 HFW.out.page HFW.out.on HFW.out.each hr HFW.out.used)
              clear hen hb4)
           | (go_at_call 43
              (refine HNX.out.mono ?_)
              rintro e w5 ⟨⟨cs5, rfl, hen5⟩, hb5⟩
              have HB5 := Lib.hid (HB4.out.trans (hb5.mono HB4.out.size))
              have HD5 := Lib.hid (heap_below HB5.out (lt_of_block HB3.out.2.1) HB3.out.2.1)
              have HC5 := Lib.hid (heap_below HB5.out (lt_of_block HB3.out.2.2) HB3.out.2.2)
              have ld5 := loadDs_at HD5.out rfl
              have c35 := cell_at (i := 3) (v := .string ⟨rec.toArray⟩) HC5.out rfl
              clear hen5 hb5)
           | fail))
       all_goals
         go_wp2_with fail
         go_meet
         exact ⟨by rw [HNK.out]; rfl, HB5.out⟩
     case rest =>
       obtain ⟨rfl, hbx⟩ := hcut
       have hHDx := heap_below hbx (lt_of_block HB3.out.2.1) HB3.out.2.1
       have hHCx := heap_below hbx (lt_of_block HB3.out.2.2) HB3.out.2.2
       have HB3x := Lib.hid (And.intro (HB3.out.1.trans (hbx.mono HB3.out.1.size)) (And.intro hHDx hHCx))
       have HCO3x := Lib.hid (HCO3.out.below hbx HCO3.out.pos)
       clear c13 c33 c33d ld3 HBE HFW HNK hHDx hHCx hbx HB3 HCO3
       obtain ⟨kk, hkk⟩ : ∃ kk, kk = newK z 1 l rec := ⟨_, rfl⟩
       rw [← hkk]
       have HNK := Lib.hid hkk.symm
       clear hkk
       have c33 := cell_at (i := 3) (v := .string ⟨rec.toArray⟩) HB3x.out.2.2 rfl
       have HKK := Lib.hid (show kk.length = 8 by rw [← HNK.out]; exact HNL.out)
       have hz6 := heap_alloc_new wc (.cells #[.string ⟨#[]⟩, .string ⟨#[]⟩] 46)
       have st6 := storePr_at (x := (kk, rec)) hz6 rfl
       have HP6 := Lib.hid (setRow_heap _ _ _ #[.string ⟨kk.toArray⟩, .string ⟨rec.toArray⟩] _ _ hz6)
       have HB6 := Lib.hid (below_setRow (box_below wc #[.string ⟨#[]⟩, .string ⟨#[]⟩] 46) (Nat.le_refl _) #[.string ⟨kk.toArray⟩, .string ⟨rec.toArray⟩])
       generalize (wc.alloc (.cells #[.string ⟨#[]⟩, .string ⟨#[]⟩] 46)).setRow wc.heap.size #[.string ⟨kk.toArray⟩, .string ⟨rec.toArray⟩] = w6 at st6 HP6 HB6
       have HBA := Lib.hid (HB3x.out.1.trans (HB6.out.mono HB3x.out.1.size))
       have ld6 := loadDs_at (heap_below HB6.out (lt_of_block HB3x.out.2.1) HB3x.out.2.1) rfl
       have lp6 := loadPr_at HP6.out rfl
       have HAL := Lib.hid (allowed49_any (z := z) 1 fmt len blk (kk, rec) w6 hd (HCO3x.out.below HB6.out HCO3x.out.pos) (show kk.length ≤ 1000000 by have := HKK.out; omega) (show rec.length ≤ 1000000 by omega))
       clear hz6
       cases hal : alP z 1 fmt len (kk, rec) with
       | false =>
         rw [hal] at HAL
         have H := Lib.hid (show appL z 1 fmt len l rec = (2, []) by rw [HPU2.out, HNK.out, hal]; rfl)
         clear hal
         go_wp2_with fail
         refine HAL.out.mono ?_
         rintro e w7 ⟨rfl, hb7⟩
         have HB7 := Lib.hid (HBA.out.trans (hb7.mono HBA.out.size))
         clear st6 ld6 lp6 hb7
         go_wp2_with fail
         go_ret2
         exact ⟨_, by rw [H.out]; rfl, by rw [H.out]; exact own_nil _ _ _ _, HB7.out.mono hb⟩
       | true =>
         rw [hal] at HAL
         have H := Lib.hid (show appL z 1 fmt len l rec = (0, l ++ [(kk, rec)]) by rw [HPU2.out, HNK.out, hal]; rfl)
         clear hal
         go_wp2_with fail
         refine HAL.out.mono ?_
         rintro e w7 ⟨rfl, hb7⟩
         have HB7 := Lib.hid (HBA.out.trans (hb7.mono HBA.out.size))
         have lp7 := loadPr_at (heap_below hb7 (lt_of_block HP6.out) HP6.out) rfl
         have HO7 := Lib.hid (own_below HO.out (HB7.out.trans ((box_below w7 #[.string ⟨kk.toArray⟩, .string ⟨rec.toArray⟩] 46).mono HB7.out.size)))
         have HBZ := Lib.hid ((HB7.out.trans ((box_below w7 #[.string ⟨kk.toArray⟩, .string ⟨rec.toArray⟩] 46).mono HB7.out.size)).mono hb)
         have HNW := Lib.hid (show ∀ (j : Nat) (u : Value), (encP (kk, rec))[j]? = some u → (w7.alloc (.cells #[.string ⟨kk.toArray⟩, .string ⟨rec.toArray⟩] 46)).cell? ((⟨w7.heap.size, 0, none⟩ : Addr).add j) = some u from news_at (heap_alloc_new w7 _))
         have HSZ := Lib.hid (show base ≤ (w7.alloc (.cells #[.string ⟨kk.toArray⟩, .string ⟨rec.toArray⟩] 46)).heap.size by have := HB7.out.size; simp; omega)
         clear st6 ld6 lp6 hb7
         go_wp2_with (at_builtin; refine wpList_append_own _ rfl _ _ 24 rfl base 46 i0 (.agg #[.string ⟨#[]⟩, .string ⟨#[]⟩]) 2 32 Tryz.underlying24 hi0 hz0 hz1 hz2 rfl (by decide) _ _ _ rfl HO7.out _ 1 _ (encP (kk, rec)) rfl rfl HNW.out (one_prs [(kk, rec)]) ?b3 ?b4 ?b5 ?_)
         case b3 => unfold maxLen; omega
         case b4 => omega
         case b5 => exact HSZ.out
         intro v8 w8 ho8 hg8 _
         have HB8 := Lib.hid (HBZ.out.grown hg8 HSZ.out (fun k hk => row_own HO7.out hk))
         have HO8 := Lib.hid (show PrRow w8 base v8 (l ++ [(kk, rec)]) by unfold PrRow; rw [List.length_append, prsF_append]; exact ho8)
         clear ho8 hg8
         go_wp2_with fail
         go_ret2
         exact ⟨_, by rw [H.out]; rfl, by rw [H.out]; exact HO8.out, HB8.out⟩
end
end

end Go.Proofs.YtckpepfkfjdnhaaGreatDoor

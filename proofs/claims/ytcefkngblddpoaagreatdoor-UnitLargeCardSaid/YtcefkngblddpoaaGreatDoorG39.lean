/-
  Walk: further changes are added to a unit. Condition: the unit lies in memory; the changes lie in memory, apart, and are not too long.
-/
import Derived.Test.YtcefkngblddpoaaGreatDoorG38
namespace Go.Proofs.YtcefkngblddpoaaGreatDoor
set_option maxRecDepth 100000
set_option maxHeartbeats 16000000
set_option linter.unusedSimpArgs false
set_option linter.unusedVariables false
open Go.RowKit Go.Sort
/-- Changes in memory, in blocks that are none of F. -/
structure ChsF (w : World) (F : List Nat) (a : Option Addr) (l : List Ch) : Prop where
 at' : Chs w w.heap.size a l
 off : l ≠ [] → ∀ p, a = some p → p.block ∉ F
theorem ChsF.only {w w' : World} {F : List Nat} {a : Option Addr} {l : List Ch} (h : ChsF w F a l) (ho : Only F w w') : ChsF w' F a l := by
 refine ⟨⟨fun hl => ?_⟩, h.off⟩
 obtain ⟨b, off, h1, h2, h3⟩ := h.at'.cells hl
 have hn := h.off hl _ h1
 refine ⟨b, off, h1, Nat.lt_of_lt_of_le h2 ho.size, fun i hi => ?_⟩
 obtain ⟨c0, c1, c2, c3, c4⟩ := h3 i hi
 exact ⟨(ho.cell (p := ⟨b, off + i * 5, none⟩) h2 hn).trans c0, (ho.cell (p := ⟨b, off + i * 5 + 1, none⟩) h2 hn).trans c1, (ho.cell (p := ⟨b, off + i * 5 + 2, none⟩) h2 hn).trans c2, (ho.cell (p := ⟨b, off + i * 5 + 3, none⟩) h2 hn).trans c3, (ho.cell (p := ⟨b, off + i * 5 + 4, none⟩) h2 hn).trans c4⟩
theorem ChsF.below {w w' : World} {F : List Nat} {a : Option Addr} {l : List Ch} (h : ChsF w F a l) (hb : Below w.heap.size w w') : ChsF w' F a l := h.only (Only.of_below hb)
theorem apply0 (u : Un) (c : Ch) (s : By) (h : c.kind = 0) : applyC u c s = putOw u c.id { ownOf u c.id with keys := aset (ownOf u c.id).keys s (some c.dat) } := by unfold applyC; rw [if_pos h]
theorem apply1 (u : Un) (c : Ch) (s : By) (h : c.kind = 1) : applyC u c s = putOw u c.id { ownOf u c.id with keys := aset (ownOf u c.id).keys s none } := by unfold applyC; rw [if_neg (by omega), if_pos h]
theorem apply2 (u : Un) (c : Ch) (s : By) (h : c.kind = 2) : applyC u c s = putOw u c.id { ownOf u c.id with keys := aset (ownOf u c.id).keys s (some c.dat), lens := (ownOf u c.id).lens ++ [c.dat.length] } := by unfold applyC; rw [if_neg (by omega), if_neg (by omega), if_pos h]
theorem apply3 (u : Un) (c : Ch) (s : By) (h : c.kind = 3) : applyC u c s = putOw u c.id ⟨true, [], []⟩ := by unfold applyC; rw [if_neg (by omega), if_neg (by omega), if_neg (by omega), if_pos h]
theorem apply9 (u : Un) (c : Ch) (s : By) (h0 : c.kind ≠ 0) (h1 : c.kind ≠ 1) (h2 : c.kind ≠ 2) (h3 : c.kind ≠ 3) : applyC u c s = u := by unfold applyC; rw [if_neg h0, if_neg h1, if_neg h2, if_neg h3]
/-- Where the loop of add stands. -/
def AddS50 (K0 : Uk) (W0 W : World) (U : Un) : Prop := ∃ k', K0.Like k' ∧ UnIn W k' U ∧ Mv K0.m W0 k'.m W
theorem AddS50.of {K0 K1 k' : Uk} {W0 W1 W : World} {U U' : Un} (h1 : UnIn W k' U') (h2 : Mv K1.m W1 k'.m W) (h0 : Mv K0.m W0 K1.m W1) (q : K0.Like k') (e : U' = U) : AddS50 K0 W0 W U := ⟨k', q, by rw [← e]; exact h1, h0.trans h2⟩
/-- The changes as a list that is appended. -/
theorem ChsF.news {w : World} {F : List Nat} {a : Option Addr} {cap : Nat} {l : List Ch} (h : ChsF w F a l) (hn : a = none → cap = 0) : NewsE chE w a cap l := NewsE.of encCh hn fun hl => by
 obtain ⟨b, off, rfl, hb, hc⟩ := h.at'.cells hl
 refine ⟨b, off, rfl, fun i hi j u hu => ?_⟩
 obtain ⟨c0, c1, c2, c3, c4⟩ := hc i hi
 rcases j with _ | _ | _ | _ | _ | j
 · have : u = .int .i64 l[i].kind := by simpa using hu.symm
   subst this; exact c0
 · have : u = .int .i64 l[i].id := by simpa using hu.symm
   subst this; exact c1
 · have : u = .string ⟨l[i].key.toArray⟩ := by simpa using hu.symm
   subst this; exact c2
 · have : u = .string ⟨l[i].dat.toArray⟩ := by simpa using hu.symm
   subst this; exact c3
 · have : u = .string ⟨l[i].vol.toArray⟩ := by simpa using hu.symm
   subst this; exact c4
 · simp at hu
theorem encT_spell (x : Lr) : ∃ (s : Value) (e : Int), encT x = #[s, .int .i64 e] ∧ (e == 8) = (soundP x && decide (16384 < (lrB x).length)) := by
 unfold encT
 split
 · rename_i h
   exact ⟨_, _, rfl, by rw [h]; rfl⟩
 · rename_i h
   have h : soundP x = true := by simpa using h
   split
   · rename_i h2
     exact ⟨_, _, rfl, by rw [h, decide_eq_true h2]; rfl⟩
   · rename_i h2
     exact ⟨_, _, rfl, by rw [h, decide_eq_false h2]; rfl⟩
section
attribute [local go_sem ↓] loadCh_down storeCh_down
theorem uadd_w (w : World) (K : Uk) (u : Un) (k : By) (a : Option Addr) (cap : Nat) (l : List Ch) (h : UnIn w K u) (hl : ChsF w K.m a l) (hn : l.length ≤ 300) (hch : ∀ c ∈ u.chs ++ l, ChLen c) (hid : ∀ c ∈ l, I64 c.id) (hk : k.length ≤ 1000000) (hnil : a = none → cap = 0)
 (hbnd : ∀ (j : Nat) (hj : j < l.length), (ownOf (applyL { u with chs := u.chs ++ l } k (l.take j)) l[j].id).lens.length ≤ 1000000) :
 Calls Tryz.prog 142 #[.pointer (some ⟨K.p, 0, none⟩), .string ⟨k.toArray⟩, .slice a l.length cap] w fun e w' => e = .returned (.int .i64 (addU u k l).1) ∧ AddS50 K w w' (addU u k l).2 := by
 obtain ⟨va, vc, hv⟩ := RowE.spell encCh h.chs
 have hnw := (RowE.news encCh (show ChRow w 0 (.slice va u.chs.length vc) u.chs by rw [← hv]; exact h.chs)).1
 have hlt : ∀ p, va = some p → u.chs ≠ [] → p.block < w.heap.size := fun p hp _ => own_lt h.chs (by rw [hv, hp]; rfl)
 have HCL := Lib.hid (clonech_w w va vc u.chs hnw hlt (by have := h.few.1; omega))
 have c3 : w.cell? ⟨K.p, 3, none⟩ = some (.slice va u.chs.length vc) := by rw [← hv]; exact cell_at (i := 3) h.row rfl
 have hq0 : a.isSome = true ∨ l = [] := by
  cases a with
  | some p => exact Or.inl rfl
  | none =>
    refine Or.inr (Classical.byContradiction fun hne => ?_)
    obtain ⟨b, off, e, _⟩ := hl.at'.cells hne
    cases e
 have HK := Lib.hid h
 have HL := Lib.hid hl
 have HNN := Lib.hid hn
 have HNW := Lib.hid (fun (W : World) (hb : Below w.heap.size w W) => (hl.below hb).news hnil)
 have HCH := Lib.hid hch
 have HID := Lib.hid hid
 have HKK := Lib.hid hk
 have HBND := Lib.hid hbnd
 have HFEW := Lib.hid h.few.1
 obtain ⟨R, hR⟩ : ∃ R, R = addU u k l := ⟨_, rfl⟩
 rw [← hR]
 have HR := Lib.hid hR
 clear hnw hlt h hl hn hnil hch hid hk hbnd hR hv
 go_enter Tryz.func142, Tryz.ntmps142
 go_wp2_with fail
 refine HCL.out.mono ?_
 rintro e w1 ⟨v1, rfl, hr1, hb1⟩
 have HR1 := Lib.hid hr1
 have HB1 := Lib.hid hb1
 clear hr1 hb1 c3
 go_wp2_with (at_builtin; go_must (refine wpList_append_many rfl _ _ rfl encCh w.heap.size v1 u.chs l a cap rfl HR1.out rfl (HNW.out w1 HB1.out) ?e1 ?e2 ?_))
 case e1 => have := HFEW.out; have := HNN.out; omega
 case e2 => exact HB1.out.size
 intro v2 w2 hr2 hg2
 have hb2 : Below w.heap.size w w2 := ((Only.of_below (S := []) HB1.out).grown hg2 (fun x hx => Or.inr (row_own HR1.out hx))).to_below
 have HB2 := Lib.hid hb2
 obtain ⟨xa, xc, hv2⟩ := RowE.spell encCh hr2
 subst hv2
 have HR2 := Lib.hid hr2
 have c0 : w2.cell? ⟨K.p, 0, none⟩ = some (.int .i64 u.num) := cell_at (i := 0) (heap_below hb2 (lt_of_block HK.out.row) HK.out.row) rfl
 have HXN := Lib.hid (show (u.chs ++ l).length ≤ 1000000 by rw [List.length_append]; have := HFEW.out; have := HNN.out; omega)
 obtain ⟨X, hX⟩ : ∃ X, X = u.chs ++ l := ⟨_, rfl⟩
 have HXE := Lib.hid hX
 rw [← hX] at HR2 HCH HXN hr2 ⊢
 clear hr2 hg2 hb2 hX HCL HNW
 by_cases g1 : 300 < X.length
 · have gI : (300 : Int) < (X.length : Int) := by omega
   have HRE := Lib.hid (show R = (8, u) by rw [HR.out]; unfold addU tooB; rw [← HXE.out, decide_eq_true g1]; rfl)
   clear g1
   go_wp2_with fail
   go_ret
   exact ⟨by rw [HRE.out]; rfl, by rw [HRE.out]; exact ⟨K, Uk.Like.refl K, HK.out.below HB2.out, Mv.of_below HB2.out⟩⟩
 · have gI : ¬ (300 : Int) < (X.length : Int) := by omega
   have HG1 := Lib.hid g1
   clear g1
   obtain ⟨x, hx⟩ : ∃ x : Lr, x = ⟨549755813888, u.num, xa, xc, X⟩ := ⟨_, rfl⟩
   have hlr : soundP x = soundP (lrU u X) ∧ lrB x = lrB (lrU u X) := by rw [hx]; exact ⟨rfl, rfl⟩
   obtain ⟨_, _, he3, _, _, hcx⟩ := chs_of_row HR2.out
   have HEN := Lib.hid (encode_w w2 w2.heap.size x (by rw [hx]; cases he3; exact hcx) (Nat.le_refl _) (by rw [hx]; exact HXN.out) (by rw [hx]; exact HCH.out))
   obtain ⟨s, e, hE, hc⟩ := encT_spell x
   rw [hE] at HEN
   rw [hlr.1, hlr.2] at hc
   have hxc : x.cs = #[.int .i64 549755813888, .int .i64 u.num, .slice xa X.length xc] := by rw [hx]
   rw [hxc] at HEN
   have HTB := Lib.hid (show tooB u X = (e == 8) by unfold tooB; rw [decide_eq_false HG1.out, hc]; rfl)
   clear hlr he3 hcx hE hc hxc hx
   by_cases he : e = 8
   · subst he
     have HRE := Lib.hid (show R = (8, u) by rw [HR.out]; unfold addU; rw [← HXE.out, if_pos (show tooB u X = true from HTB.out.trans (by decide))])
     go_wp2_with fail
     refine HEN.out.mono ?_
     rintro e w3 ⟨rfl, hb3⟩
     have HB3 := Lib.hid (HB2.out.trans (hb3.mono HB2.out.size))
     clear hb3 c0
     go_wp2_with fail
     go_ret
     exact ⟨by rw [HRE.out]; rfl, by rw [HRE.out]; exact ⟨K, Uk.Like.refl K, HK.out.below HB3.out, Mv.of_below HB3.out⟩⟩
   · have ge : ((e : Int) == 8) = false := by simpa using he
     have HRE := Lib.hid (show R = (0, applyL { u with chs := X } k l) by rw [HR.out]; unfold addU; rw [← HXE.out, if_neg (by rw [HTB.out, ge]; simp)])
     clear he HTB
     go_wp2_with fail
     refine HEN.out.mono ?_
     rintro e9 w3 ⟨rfl, hb3⟩
     have HB3 := Lib.hid (HB2.out.trans (hb3.mono HB2.out.size))
     have HR3 := Lib.hid (show ChRow w3 w.heap.size (.slice xa X.length xc) X from RowE.below HR2.out hb3)
     have hrow3 := heap_below HB3.out (lt_of_block HK.out.row) HK.out.row
     have c3 : w3.cell? ⟨K.p, 3, none⟩ = some K.cv := cell_at (i := 3) hrow3 rfl
     have fz3 : w3.frozen? ⟨K.p, 3, none⟩ = false := frozen_of_row w3 K.p 3 _ _ hrow3
     have hset := (HK.out.below HB3.out).setC (RowE.mono HR3.out (Nat.zero_le _)) (by have := HG1.out; omega) (fun y hy hm => by have h1 := row_own HR3.out hy; have h2 := HK.out.lt y hm; omega)
     obtain ⟨W0, hW0⟩ : ∃ W0, W0 = w3.setCell ⟨K.p, 3, none⟩ (.slice xa X.length xc) := ⟨_, rfl⟩
     obtain ⟨K0, hK0⟩ : ∃ K0 : Uk, K0 = { K with cv := .slice xa X.length xc } := ⟨_, rfl⟩
     obtain ⟨U0, hU0⟩ : ∃ U0 : Un, U0 = { u with chs := X } := ⟨_, rfl⟩
     have hmem : ∀ y ∈ K0.m, y ∈ K.m ∨ w.heap.size ≤ y := fun y hy => by
      rw [hK0] at hy
      simp only [Uk.m, List.mem_append, List.mem_cons, List.not_mem_nil, or_false] at hy ⊢
      rcases hy with (((hy | hy) | hy) | hy) | hy
      · exact Or.inl (Or.inl (Or.inl (Or.inl (Or.inl hy))))
      · exact Or.inl (Or.inl (Or.inl (Or.inl (Or.inr hy))))
      · exact Or.inr (row_own HR3.out (by simpa using hy))
      · exact Or.inl (Or.inl (Or.inr hy))
      · exact Or.inl (Or.inr hy)
     rw [← hW0, ← hK0, ← hU0] at hset
     have honw : Only K.m w W0 := (Only.of_below HB3.out).trans (hset.2.mono (fun y hy _ => by rw [List.mem_singleton] at hy; rw [hy]; simp))
     have HMV := Lib.hid (show Mv K.m w K0.m W0 from ⟨honw, fun y hy => (hmem y hy).imp id (fun q => ⟨q, hset.1.lt y hy⟩)⟩)
     have HUN0 := Lib.hid hset.1
     have HKP := Lib.hid (show K0.p = K.p by rw [hK0])
     have HLK0 := Lib.hid (show K.Like K0 by rw [hK0]; exact ⟨rfl, rfl, rfl, rfl⟩)
     have HCS := Lib.hid (show ChsF W0 K0.m a l from ⟨(HL.out.only honw).at', fun hne p hp hm => by
      rcases hmem _ hm with q | q
      · exact HL.out.off hne p hp q
      · obtain ⟨b, off, e1, e2, _⟩ := HL.out.at'.cells hne
        rw [hp] at e1; cases e1
        simp only at q; omega⟩)
     have HOKC := Lib.hid (fun (c : Ch) (hc : c ∈ l) => And.intro (HID.out c hc) (HCH.out c (by rw [HXE.out]; exact List.mem_append_right _ hc)))
     have HW0 := Lib.hid hW0
     rw [← HXE.out, ← hU0] at HBND
     rw [← hU0] at HRE
     clear hset hmem honw hW0 hK0 hU0 hrow3 hb3 c0
     go_upto_region 8 with fail
     rw [← HW0.out]
     clear c3 fz3
     go_wp2_with fail
     go_loopw [42] (fun t wr => ∃ j : Nat, j ≤ l.length ∧ t = .int .i64 j ∧ AddS50 K0 W0 wr (applyL U0 k (l.take j))) (fun t _ => l.length - (intOf t).toNat)
     case atStart => exact ⟨0, by omega, rfl, K0, Uk.Like.refl K0, HUN0.out, Mv.refl _ _⟩
     case round =>
      obtain ⟨j, hj, rfl, hst0⟩ := hrel
      obtain ⟨kj, hlike0, hun0, hmv0⟩ := hst0
      have HLJ := Lib.hid hlike0
      have HMJ := Lib.hid hmv0
      have hpj := hlike0.p.trans HKP.out
      by_cases hlt : j < l.length
      · have hltI : (j : Int) < (l.length : Int) := by omega
        obtain ⟨b, off, rfl, hbb, hld⟩ := ((HCS.out.only hmv0.only).at').get hlt
        have hl1 := hld wr (Below.refl _ _)
        have hl1x := hld (wr.alloc (.cells chZ 36)) (box_below0 _ _ _)
        have HSN := Lib.hid (applyL_snoc U0 k l j hlt)
        have hokc := HOKC.out l[j] (List.getElem_mem hlt)
        have HLNS0 := Lib.hid (HBND.out j hlt)
        have hn3 := HNN.out
        generalize applyL U0 k (l.take j) = Uj at hun0 HSN HLNS0
        generalize l[j] = c at hl1 hl1x HSN hokc HLNS0
        obtain ⟨ck, ci, ckey, cdat, cvol⟩ := c
        obtain ⟨W2, hst, hz2, hb2⟩ := put_ch wr ⟨ck, ci, ckey, cdat, cvol⟩
        have e0 := cell_at (i := 0) (v := .int .i64 ck) hz2 rfl
        have e1 := cell_at (i := 1) (v := .int .i64 ci) hz2 rfl
        have e2 := cell_at (i := 2) (v := .string ⟨ckey.toArray⟩) hz2 rfl
        have e3 := cell_at (i := 3) (v := .string ⟨cdat.toArray⟩) hz2 rfl
        have e4 := cell_at (i := 4) (v := .string ⟨cvol.toArray⟩) hz2 rfl
        have HB2 := Lib.hid hb2
        have HCB := Lib.hid (show wr.heap.size ∉ kj.m from fun hm => Nat.lt_irrefl _ (hun0.lt _ hm))
        have HCBR := Lib.hid hz2
        have HUJ := Lib.hid hun0
        have HI64 := Lib.hid hokc.1
        have HSET := Lib.hid (fun (W : World) (hW : Below wr.heap.size wr W) => set_w W kj Uj ci (hun0.below hW) hokc.1)
        rw [← hpj]
        clear hpj
        have HKL := Lib.hid hokc.2
        clear hlike0 hun0 hmv0 hld hbb hokc hz2 hb2
        by_cases hj0 : j = 0
        · have gj : ((j : Int) == 0) = true := by simp [hj0]
          rw [if_pos hj0] at HSN
          have HOKS := Lib.hid (show k.length ≤ 9223372036854775807 from by have := HKK.out; omega)
          clear hj0
          by_cases h0 : ck = 0
          · subst h0
            go_upto_region 16 with fail
            refine wp_region_held_drew (S := fun W => W.cell? ⟨wr.heap.size, 1, none⟩ = some (.int .i64 ci) ∧ W.cell? ⟨wr.heap.size, 3, none⟩ = some (.string ⟨cdat.toArray⟩)) (by kernel_rfl) ⟨e1, e3⟩ (fun hHeld => ?_)
            refine tk 0 (.pointer (some ⟨kj.p, 0, none⟩)) 56 ?_
            refine tk 1 (.pointer (some ⟨wr.heap.size, 1, none⟩)) 57 ?_
            refine tk 2 (.int .i64 ci) 58 ?_
            refine tk 7 (.string ⟨(k).toArray⟩) 63 ?_
            refine tk 8 (.pointer (some ⟨wr.heap.size, 3, none⟩)) 64 ?_
            refine tk 9 (.string ⟨cdat.toArray⟩) 65 ?_
            refine tk 10 (.agg #[.bool true, .string ⟨cdat.toArray⟩]) 66 ?_
            refine rd1 3 fun K hK => ?_
            go_simp
            refine (HSET.out W2.drew (below_drewN HB2.out 1)).mono ?_
            rintro e V2 ⟨k', o, rfl, hlike, hlk, hun, hmv, _, hox⟩
            obtain ⟨V3, hrun0, hm3, hg3, _⟩ := amap_update (P := Tryz.prog) keyStr Tryz.underlying201 (hun.at hlk).keys (show okS (k) from HOKS.out) (some cdat)
            have hrun : (Instr.mapUpdate 201 (.map (some o.kb)) (.string ⟨(k).toArray⟩) (.agg #[.bool true, .string ⟨cdat.toArray⟩])).run Tryz.prog V2 = .ok () V3 := hrun0
            have hkey := hun.keyed hlk hm3 hg3
            have d1 : V2.cell? ⟨o.p, 1, none⟩ = some (.map (some o.kb)) := cell_at (i := 1) (hun.at hlk).row rfl
            have hE1 := (hmv.only.cell (p := ⟨wr.heap.size, 1, none⟩) (block_lt_of_cell e1) HCB.out).trans e1
            have hE3 := (hmv.only.cell (p := ⟨wr.heap.size, 3, none⟩) (block_lt_of_cell e3) HCB.out).trans e3
            have hon3 : Only [o.kb] V2 V3 := (Only.refl _ _).grown hg3 (fun x hx => Or.inl (by rw [Option.some.inj hx.symm]; simp))
            have hck : wr.heap.size ∉ [o.kb] := fun hm => by
             obtain ⟨es9, cl9, h9⟩ := amap_block (hun.at hlk).keys
             rw [List.mem_singleton] at hm
             exact map_apart (hmv.only.heap HCBR.out HCB.out) h9 hm
            have HE3 := Lib.hid (And.intro ((hon3.cell (p := ⟨wr.heap.size, 1, none⟩) (block_lt_of_cell hE1) hck).trans hE1) ((hon3.cell (p := ⟨wr.heap.size, 3, none⟩) (block_lt_of_cell hE3) hck).trans hE3))
            have HFIN := Lib.hid (show AddS50 K0 W0 V3 (applyC Uj ⟨0, ci, ckey, cdat, cvol⟩ (k)) from AddS50.of hkey.1 hkey.2 (HMJ.out.trans ((Mv.of_below (below_drewN HB2.out 1)).trans hmv)) (HLJ.out.trans (hlike.trans ⟨rfl, rfl, rfl, rfl⟩)) (by rw [hox]; exact (putOw_touch _ _ _).trans (apply0 Uj ⟨0, ci, ckey, cdat, cvol⟩ (k) rfl).symm))
            clear hlike hun hmv hox hm3 hg3 hrun0 hkey hon3 hck
            refine hK.out _ _ ⟨hE1, hE3⟩ (fun hHeld => ?_)
            clear hK K
            try simp only [lay]
            refine tk 4 (.pointer (some ⟨o.p, 0, none⟩)) 60 ?_
            refine tk 5 (.pointer (some ⟨o.p, 1, none⟩)) 61 ?_
            refine rd1 6 fun K hK => ?_
            go_simp
            (try go_wp2_with fail)
            refine hK.out _ _ (⟨hE1, hE3⟩) (fun hHeld => ?_)
            clear hK K
            try simp only [lay]
            refine rd1 11 fun K hK => ?_
            go_simp
            (try go_wp2_with fail)
            refine hK.out _ _ (HE3.out) (fun hHeld => ?_)
            clear hK K
            try simp only [lay]
            refine wpAnyH_done (by kernel_rfl) ?_ _
            clear hrun d1 hE1 hE3 e0 e1 e2 e3 e4 hst hl1 hl1x
            go_wp2_with fail
            go_roundw
            case rel => exact ⟨j + 1, by omega, by go_num, by rw [HSN.out]; exact HFIN.out⟩
            case measure => (simp [intOf]) <;> omega
          · by_cases h1 : ck = 1
            · subst h1
              clear h0
              go_wp2_with fail
              refine (HSET.out W2 HB2.out).mono ?_
              rintro e V2 ⟨k', o, rfl, hlike, hlk, hun, hmv, _, hox⟩
              have d1 : V2.cell? ⟨o.p, 1, none⟩ = some (.map (some o.kb)) := cell_at (i := 1) (hun.at hlk).row rfl
              have HUN := Lib.hid hun
              have HLK := Lib.hid hlk
              have HLIKE := Lib.hid hlike
              have HMV := Lib.hid hmv
              have HOX := Lib.hid hox
              clear hun hlk hlike hmv hox e0 e1 e2 e3 e4 hst hl1 hl1x
              go_wp2_with (refine wpList_aupdate rfl _ _ _ rfl keyStr Tryz.underlying201 (HUN.out.at HLK.out).keys rfl (k) rfl HOKS.out (none : Option By) rfl ?_)
              intro V3 hm3 hg3 _
              have hkey := HUN.out.keyed HLK.out hm3 hg3
              have HFIN := Lib.hid (show AddS50 K0 W0 V3 (applyC Uj ⟨1, ci, ckey, cdat, cvol⟩ (k)) from AddS50.of hkey.1 hkey.2 (HMJ.out.trans ((Mv.of_below HB2.out).trans HMV.out)) (HLJ.out.trans (HLIKE.out.trans ⟨rfl, rfl, rfl, rfl⟩)) (by rw [HOX.out]; exact (putOw_touch _ _ _).trans (apply1 Uj ⟨1, ci, ckey, cdat, cvol⟩ (k) rfl).symm))
              clear hkey hm3 hg3 d1
              go_wp2_with fail
              go_roundw
              case rel => exact ⟨j + 1, by omega, by go_num, by rw [HSN.out]; exact HFIN.out⟩
              case measure => (simp [intOf]) <;> omega
            · by_cases h2 : ck = 2
              · subst h2
                clear h0 h1
                have HLNS := Lib.hid (show ({ ownOf Uj ci with keys := aset (ownOf Uj ci).keys (k) (some cdat) } : Ow).lens.length ≤ 1000000 from HLNS0.out)
                go_wp2_with fail
                refine (HSET.out W2 HB2.out).mono ?_
                rintro e V2 ⟨k', o, rfl, hlike, hlk, hun, hmv, _, hox⟩
                have hunD := hun.below (below_drewN (Below.refl V2.heap.size V2) 1)
                obtain ⟨V3, hrun0, hm3, hg3, hsz3⟩ := amap_update (P := Tryz.prog) keyStr Tryz.underlying201 (hunD.at hlk).keys (show okS (k) from HOKS.out) (some cdat)
                have hrun : (Instr.mapUpdate 201 (.map (some o.kb)) (.string ⟨(k).toArray⟩) (.agg #[.bool true, .string ⟨cdat.toArray⟩])).run Tryz.prog V2.drew = .ok () V3 := hrun0
                have hkey := hunD.keyed hlk hm3 hg3
                have d1 : V2.drew.cell? ⟨o.p, 1, none⟩ = some (.map (some o.kb)) := cell_at (i := 1) (hunD.at hlk).row rfl
                have hE3 : V2.drew.cell? ⟨wr.heap.size, 3, none⟩ = some (.string ⟨cdat.toArray⟩) := (hmv.only.cell (p := ⟨wr.heap.size, 3, none⟩) (block_lt_of_cell e3) HCB.out).trans e3
                have hon3 : Only [o.kb] V2.drew V3 := (Only.refl _ _).grown hg3 (fun x hx => Or.inl (by rw [Option.some.inj hx.symm]; simp))
                have hck : wr.heap.size ∉ [o.kb] := fun hm => by
                 obtain ⟨es9, cl9, h9⟩ := amap_block (hunD.at hlk).keys
                 rw [List.mem_singleton] at hm
                 exact map_apart (show V2.drew.heap[wr.heap.size]? = _ from hmv.only.heap HCBR.out HCB.out) h9 hm
                have hE3' : V3.cell? ⟨wr.heap.size, 3, none⟩ = some (.string ⟨cdat.toArray⟩) := (hon3.cell (p := ⟨wr.heap.size, 3, none⟩) (block_lt_of_cell hE3) hck).trans hE3
                obtain ⟨o2, ho2⟩ : ∃ o2 : OwK, o2 = { o with x := { o.x with keys := aset o.x.keys (k) (some cdat) } } := ⟨_, rfl⟩
                obtain ⟨k2, hk2⟩ : ∃ k2 : Uk, k2 = { k' with os := aset k'.os ci o2 } := ⟨_, rfl⟩
                rw [← ho2, ← hk2] at hkey
                have hlk2 : alook k2.os ci = some o2 := by rw [hk2]; exact alook_aset_same _ _ _
                have hp2 : o2.p = o.p := by rw [ho2]
                have hlike2 : k'.Like k2 := by rw [hk2]; exact ⟨rfl, rfl, rfl, rfl⟩
                have HUN3 := Lib.hid (show UnIn V3 k2 (putOw (touchU Uj ci) ci { ownOf Uj ci with keys := aset (ownOf Uj ci).keys (k) (some cdat) }) from by have := hkey.1; rw [hox] at this; exact this)
                have HX2 := Lib.hid (show o2.x = { ownOf Uj ci with keys := aset (ownOf Uj ci).keys (k) (some cdat) } by rw [ho2, ← show o.x = ownOf Uj ci from hox])
                have HMV3 := Lib.hid ((Mv.of_below HB2.out).trans (hmv.trans ((Mv.of_below (below_drewN (Below.refl V2.heap.size V2) 1)).trans hkey.2)))
                have HLK2 := Lib.hid hlk2
                have HLIKE2 := Lib.hid (HLJ.out.trans (hlike.trans hlike2))
                have HE3' := Lib.hid hE3'
                have HP2 := Lib.hid hp2
                clear hsz3 hlike hun hunD hmv hox hm3 hg3 hrun0 hkey hon3 hck hlk2 hlike2 hk2 ho2 hlk hE3' hp2 e0 e1 e2 e3 e4 hst hl1 hl1x
                go_upto_region 21 with fail
                refine wp_region_held_drew (S := fun W => W.cell? ⟨wr.heap.size, 3, none⟩ = some (.string ⟨cdat.toArray⟩)) (by kernel_rfl) hE3 (fun hHeld => ?_)
                refine tk 0 (ptrO o) 84 ?_
                refine tk 1 (.pointer (some ⟨o.p, 0, none⟩)) 85 ?_
                refine tk 2 (.pointer (some ⟨o.p, 1, none⟩)) 86 ?_
                refine tk 4 (.string ⟨(k).toArray⟩) 88 ?_
                refine tk 5 (.pointer (some ⟨wr.heap.size, 3, none⟩)) 89 ?_
                refine tk 6 (.string ⟨cdat.toArray⟩) 90 ?_
                refine tk 7 (.agg #[.bool true, .string ⟨cdat.toArray⟩]) 91 ?_
                refine rd1 3 fun K hK => ?_
                go_simp
                (try go_wp2_with fail)
                refine hK.out _ _ (hE3) (fun hHeld => ?_)
                clear hK K
                try simp only [lay]
                refine rd1 8 fun K hK => ?_
                go_simp
                (try go_wp2_with fail)
                refine hK.out _ _ (HE3'.out) (fun hHeld => ?_)
                clear hK K
                try simp only [lay]
                refine wpAnyH_done (by kernel_rfl) ?_ _
                clear hrun d1 hE3
                obtain ⟨va, vc, hv⟩ := RowE.spell encLn (HUN3.out.at HLK2.out).lens
                have HV := Lib.hid hv
                obtain ⟨O, hO⟩ : ∃ O, O = o2.x.lens := ⟨_, rfl⟩
                rw [← hO] at hv HV
                have HO := Lib.hid hO
                have d2 : V3.drew.cell? ⟨o.p, 2, none⟩ = some (.slice va O.length vc) := by rw [← HP2.out]; exact cell_at (w := V3.drew) (i := 2) (HUN3.out.at HLK2.out).row (by rw [← hv]; rfl)
                have e3 : V3.drew.cell? ⟨wr.heap.size, 3, none⟩ = some (.string ⟨cdat.toArray⟩) := HE3'.out
                obtain ⟨V1, hV1⟩ : ∃ V1, V1 = (V3.alloc (.cells (lnE cdat.length) 3)).drew := ⟨_, rfl⟩
                have hb1 : Below V3.heap.size V3 V1 := by rw [hV1]; exact (box_below0 V3 (lnE cdat.length) 3).drew
                have HG1 := Lib.hid (show V1.heap[V3.heap.size]? = some (.cells (lnE cdat.length) 3 (0, 0)) by rw [hV1]; exact heap_alloc_new V3 _)
                have HE1 := Lib.hid hV1
                have HB1x := Lib.hid hb1
                have HRow1 := Lib.hid (show LnRow V1 0 (.slice va O.length vc) O by rw [← hv, hO]; exact (HUN3.out.at HLK2.out).lens.below hb1)
                have HLC := Lib.hid (show V1.cell? ⟨o.p, 2, none⟩ = some (.slice va O.length vc) from (hb1.cell (p := ⟨o.p, 2, none⟩) (block_lt_of_cell d2)).trans d2)
                have HLN := Lib.hid (show O.length ≤ 1000000 from by rw [hO, HX2.out]; exact HLNS.out)
                have HEnd := Lib.hid (show ∀ (V2 : World) (va' : Option Addr) (vc' : Nat), LnRow V2 0 (.slice va' (O ++ [cdat.length]).length vc') (O ++ [cdat.length]) → V1.grownBy V2 (Value.slice va O.length vc).ownBlock →
                 ((Value.slice va' (O ++ [cdat.length]).length vc').ownBlock = (Value.slice va O.length vc).ownBlock ∨ (Value.slice va' (O ++ [cdat.length]).length vc').ownBlock = some V1.heap.size) →
                 (∃ cs, V2.heap[o.p]? = some (.cells cs 203 (0, 0))) ∧ V2.frozen? ⟨o.p, 2, none⟩ = false ∧ V2.cell? ⟨o.p, 2, none⟩ = some (.slice va O.length vc) ∧
                 AddS50 K0 W0 (V2.setCell ⟨o.p, 2, none⟩ (.slice va' (O.length + 1) vc')) (applyC Uj ⟨2, ci, ckey, cdat, cvol⟩ (k)) from fun V2 va' vc' hR2 hg2 how => by
                 have hw := HUN3.out.at HLK2.out
                 have hon : Only o2.lv.ownBlock.toList V3 V2 := by rw [HV.out]; exact (Only.of_below HB1x.out).grown hg2 (fun y hy => Or.inl (by simp [hy]))
                 have hnp : o2.p ∉ o2.lv.ownBlock.toList := fun hm => by
                  obtain ⟨cs, hbk⟩ := own_block hw.lens (show o2.lv.ownBlock = some o2.p by simpa using hm)
                  exact types_apart hbk hw.row (by decide) rfl
                 have hp2 := hon.heap hw.row hnp
                 have hcl : V2.cell? ⟨o2.p, 2, none⟩ = some (.slice va O.length vc) := by rw [← HV.out]; exact cell_at (i := 2) hp2 rfl
                 have h3 := HUN3.out.lensed HLK2.out hon hR2 (fun y hy => by
                  rcases how with e | e
                  · exact Or.inl (by rw [HV.out, ← e]; exact hy)
                  · rw [e] at hy
                    obtain rfl : V1.heap.size = y := Option.some.inj hy
                    exact Or.inr HB1x.out.size)
                 rw [show (O ++ [cdat.length]).length = O.length + 1 by simp, HP2.out] at h3
                 rw [HP2.out] at hp2 hcl
                 refine ⟨⟨_, hp2⟩, frozen_of_row V2 o.p 2 _ _ hp2, hcl, AddS50.of h3.1 h3.2 (HMJ.out.trans HMV3.out) (HLIKE2.out.trans ⟨rfl, rfl, rfl, rfl⟩) ?_⟩
                 rw [HO.out, HX2.out]
                 exact (putOw_putOw _ _ _ _).trans ((putOw_touch _ _ _).trans (apply2 Uj ⟨2, ci, ckey, cdat, cvol⟩ (k) rfl).symm))
                clear hv hV1 hb1 hO
                go_upto_region 22 with fail
                refine wp_region_held_drew (S := fun _ => True) (by kernel_rfl) trivial (fun hHeld => ?_)
                refine tk 0 (ptrO o) 92 ?_
                refine tk 1 (ptrO o) 93 ?_
                refine tk 2 (.pointer (some ⟨o.p, 0, none⟩)) 94 ?_
                refine tk 3 (.pointer (some ⟨o.p, 2, none⟩)) 95 ?_
                refine tk 5 (.pointer (some ⟨wr.heap.size, 3, none⟩)) 97 ?_
                refine rd2 4 6 (fun K hK => ?_) (fun K hK => ?_)
                · skip
                  go_simp
                  (try go_wp2_with fail)
                  refine hK.out _ _ (trivial) (fun hHeld => ?_)
                  clear hK K
                  try simp only [lay]
                  refine rd1 6 fun K hK => ?_
                  go_simp
                  (try go_wp2_with fail)
                  refine hK.out _ _ (trivial) (fun hHeld => ?_)
                  clear hK K
                  try simp only [lay]
                  refine tk 7 (.int .i64 (cdat.length : Nat)) 99 ?_
                  refine rd1 8 fun K hK => ?_
                  go_simp
                  rw [← HE1.out]
                  (try go_wp2_with fail)
                  refine hK.out _ _ (trivial) (fun hHeld => ?_)
                  clear hK K
                  try simp only [lay]
                  refine rd1 9 fun K hK => ?_
                  refine step_append_one rfl _ _ rfl encLn 0 (.slice va O.length vc) O cdat.length rfl HRow1.out V3.heap.size rfl HG1.out rfl HLN.out (Nat.zero_le _) ?_
                  rintro v' V2 hrow2 hgr2 how2
                  obtain ⟨va', vc', rfl⟩ := RowE.spell encLn hrow2
                  obtain ⟨hp2, fz2, cl2, hend⟩ := HEnd.out V2 va' vc' hrow2 hgr2 how2
                  have HFIN := Lib.hid hend
                  have hln : (O ++ [cdat.length]).length = O.length + 1 := by simp
                  clear hrow2 hgr2 how2 hp2 hend
                  try rw [hln]
                  clear hln
                  refine hK.out _ _ trivial (fun hHeld => ?_)
                  clear hK K
                  try simp only [lay]
                  refine tk 10 (.pointer (some ⟨o.p, 0, none⟩)) 102 ?_
                  refine tk 11 (.pointer (some ⟨o.p, 2, none⟩)) 103 ?_
                  refine rd1 12 fun K hK => ?_
                  go_simp
                  (try go_wp2_with fail)
                  refine hK.out _ _ (trivial) (fun hHeld => ?_)
                  clear hK K
                  try simp only [lay]
                  refine wpAnyH_done (by kernel_rfl) ?_ _
                  clear fz2 cl2
                  go_wp2_with fail
                  go_roundw
                  case rel => exact ⟨j + 1, by omega, by go_num, by rw [HSN.out]; exact HFIN.out⟩
                  case measure => (simp [intOf]) <;> omega
                · skip
                  go_simp
                  (try go_wp2_with fail)
                  refine hK.out _ _ (trivial) (fun hHeld => ?_)
                  clear hK K
                  try simp only [lay]
                  refine tk 7 (.int .i64 (cdat.length : Nat)) 99 ?_
                  refine rd2 4 8 (fun K hK => ?_) (fun K hK => ?_)
                  · skip
                    go_simp
                    (try go_wp2_with fail)
                    refine hK.out _ _ (trivial) (fun hHeld => ?_)
                    clear hK K
                    try simp only [lay]
                    refine rd1 8 fun K hK => ?_
                    go_simp
                    rw [← HE1.out]
                    (try go_wp2_with fail)
                    refine hK.out _ _ (trivial) (fun hHeld => ?_)
                    clear hK K
                    try simp only [lay]
                    refine rd1 9 fun K hK => ?_
                    refine step_append_one rfl _ _ rfl encLn 0 (.slice va O.length vc) O cdat.length rfl HRow1.out V3.heap.size rfl HG1.out rfl HLN.out (Nat.zero_le _) ?_
                    rintro v' V2 hrow2 hgr2 how2
                    obtain ⟨va', vc', rfl⟩ := RowE.spell encLn hrow2
                    obtain ⟨hp2, fz2, cl2, hend⟩ := HEnd.out V2 va' vc' hrow2 hgr2 how2
                    have HFIN := Lib.hid hend
                    have hln : (O ++ [cdat.length]).length = O.length + 1 := by simp
                    clear hrow2 hgr2 how2 hp2 hend
                    try rw [hln]
                    clear hln
                    refine hK.out _ _ trivial (fun hHeld => ?_)
                    clear hK K
                    try simp only [lay]
                    refine tk 10 (.pointer (some ⟨o.p, 0, none⟩)) 102 ?_
                    refine tk 11 (.pointer (some ⟨o.p, 2, none⟩)) 103 ?_
                    refine rd1 12 fun K hK => ?_
                    go_simp
                    (try go_wp2_with fail)
                    refine hK.out _ _ (trivial) (fun hHeld => ?_)
                    clear hK K
                    try simp only [lay]
                    refine wpAnyH_done (by kernel_rfl) ?_ _
                    clear fz2 cl2
                    go_wp2_with fail
                    go_roundw
                    case rel => exact ⟨j + 1, by omega, by go_num, by rw [HSN.out]; exact HFIN.out⟩
                    case measure => (simp [intOf]) <;> omega
                  · skip
                    go_simp
                    rw [← HE1.out]
                    (try go_wp2_with fail)
                    refine hK.out _ _ (trivial) (fun hHeld => ?_)
                    clear hK K
                    try simp only [lay]
                    have dl : V1.cell? ⟨o.p, 2, none⟩ = some (.slice va O.length vc) := HLC.out
                    refine rd1 4 fun K hK => ?_
                    go_simp
                    (try go_wp2_with fail)
                    refine hK.out _ _ (trivial) (fun hHeld => ?_)
                    clear hK K
                    try simp only [lay]
                    clear dl
                    refine rd1 9 fun K hK => ?_
                    refine step_append_one rfl _ _ rfl encLn 0 (.slice va O.length vc) O cdat.length rfl HRow1.out V3.heap.size rfl HG1.out rfl HLN.out (Nat.zero_le _) ?_
                    rintro v' V2 hrow2 hgr2 how2
                    obtain ⟨va', vc', rfl⟩ := RowE.spell encLn hrow2
                    obtain ⟨hp2, fz2, cl2, hend⟩ := HEnd.out V2 va' vc' hrow2 hgr2 how2
                    have HFIN := Lib.hid hend
                    have hln : (O ++ [cdat.length]).length = O.length + 1 := by simp
                    clear hrow2 hgr2 how2 hp2 hend
                    try rw [hln]
                    clear hln
                    refine hK.out _ _ trivial (fun hHeld => ?_)
                    clear hK K
                    try simp only [lay]
                    refine tk 10 (.pointer (some ⟨o.p, 0, none⟩)) 102 ?_
                    refine tk 11 (.pointer (some ⟨o.p, 2, none⟩)) 103 ?_
                    refine rd1 12 fun K hK => ?_
                    go_simp
                    (try go_wp2_with fail)
                    refine hK.out _ _ (trivial) (fun hHeld => ?_)
                    clear hK K
                    try simp only [lay]
                    refine wpAnyH_done (by kernel_rfl) ?_ _
                    clear fz2 cl2
                    go_wp2_with fail
                    go_roundw
                    case rel => exact ⟨j + 1, by omega, by go_num, by rw [HSN.out]; exact HFIN.out⟩
                    case measure => (simp [intOf]) <;> omega
              · by_cases h3 : ck = 3
                · subst h3
                  clear h0 h1 h2
                  have hunD : UnIn W2 kj Uj := HUJ.out.below HB2.out
                  have hmm := @run_makeMap Tryz.prog
                  obtain ⟨M1, hM1⟩ : ∃ M1, M1 = (W2.alloc (.map #[] 0)).drew := ⟨_, rfl⟩
                  obtain ⟨M2, hM2⟩ : ∃ M2, M2 = M1.alloc (.cells #[.bool true, .map (some W2.heap.size), .slice none 0 0] 203) := ⟨_, rfl⟩
                  have s1 : M1.heap.size = W2.heap.size + 1 := by rw [hM1]; exact World.size_alloc _ _
                  have hbm1 : Below W2.heap.size W2 M1 := by rw [hM1]; exact ((Below.refl _ _).alloc (Nat.le_refl _) _).drew
                  have hbm : Below W2.heap.size W2 M2 := by rw [hM2]; exact hbm1.alloc hbm1.size _
                  have g1 : M2.heap[W2.heap.size + 1]? = some (.cells #[.bool true, .map (some W2.heap.size), .slice none 0 0] 203 (0, 0)) := by rw [hM2, ← s1]; exact heap_alloc_new _ _
                  have hmn : amap M2 W2.heap.size kS seenV okS [] := amap_keep (amap_new W2 kS seenV okS) (by rw [hM2]; exact (halloc _ _ (by omega)).trans (by subst hM1; rfl))
                  obtain ⟨V3, hrun0, hm3, hg3, _⟩ := amap_update (P := Tryz.prog) keyInt Tryz.underlying119 (amap_keep hunD.sets (hbm.block _ (amap_lt hunD.sets))) HI64.out (⟨W2.heap.size + 1, W2.heap.size, .slice none 0 0, ⟨true, [], []⟩⟩ : OwK)
                  have hrun : (Instr.mapUpdate 119 (.map (some kj.mb)) (.int .i64 ci) (.pointer (some ⟨W2.heap.size + 1, 0, none⟩))).run Tryz.prog M2 = .ok () V3 := hrun0
                  have hemp := hunD.emptied hbm g1 hmn hm3 hg3
                  have c4 : W2.cell? ⟨kj.p, 4, none⟩ = some (.map (some kj.mb)) := cell_at (i := 4) hunD.row rfl
                  have c41 := (hbm1.cell (p := ⟨kj.p, 4, none⟩) (block_lt_of_cell c4)).trans c4
                  have c42 := (hbm.cell (p := ⟨kj.p, 4, none⟩) (block_lt_of_cell c4)).trans c4
                  have e1d : W2.cell? ⟨wr.heap.size, 1, none⟩ = some (.int .i64 ci) := e1
                  have HEM1 := Lib.hid ((hbm1.cell (p := ⟨wr.heap.size, 1, none⟩) (block_lt_of_cell e1d)).trans e1d)
                  have hem2 := (hbm.cell (p := ⟨wr.heap.size, 1, none⟩) (block_lt_of_cell e1d)).trans e1d
                  have hon3 : Only [kj.mb] M2 V3 := (Only.refl _ _).grown hg3 (fun x hx => Or.inl (by rw [Option.some.inj hx.symm]; simp))
                  have HEM3 := Lib.hid ((hon3.cell (p := ⟨wr.heap.size, 1, none⟩) (block_lt_of_cell hem2) (fun hm => by rw [List.mem_singleton] at hm; exact HCB.out (by have hm : wr.heap.size = kj.mb := hm; rw [hm]; simp))).trans hem2)
                  have HEM2 := Lib.hid hem2
                  have HFIN := Lib.hid (show AddS50 K0 W0 V3 (applyC Uj ⟨3, ci, ckey, cdat, cvol⟩ (k)) from AddS50.of hemp.1 hemp.2 (HMJ.out.trans (Mv.of_below HB2.out)) (HLJ.out.trans ⟨rfl, rfl, rfl, rfl⟩) (apply3 _ _ _ rfl).symm)
                  have HM1 := Lib.hid hM1
                  have HM2 := Lib.hid hM2
                  have HS1 := Lib.hid s1
                  clear hunD hbm1 hbm g1 hmn hm3 hg3 hrun0 hemp hem2 hon3 hM1 hM2 s1
                  go_upto_region 24 with fail
                  clear hst e0 e1 e2 e3 e4 hl1 hl1x
                  refine wp_region_held_drew (S := fun W => W.cell? ⟨wr.heap.size, 1, none⟩ = some (.int .i64 ci)) (by kernel_rfl) e1d (fun hHeld => ?_)
                  refine tk 0 (.pointer (some ⟨kj.p, 0, none⟩)) 106 ?_
                  refine tk 1 (.pointer (some ⟨kj.p, 0, none⟩)) 107 ?_
                  refine tk 2 (.pointer (some ⟨kj.p, 4, none⟩)) 108 ?_
                  refine tk 4 (.pointer (some ⟨wr.heap.size, 1, none⟩)) 110 ?_
                  refine tk 5 (.int .i64 ci) 111 ?_
                  refine rd2 3 6 (fun K hK => ?_) (fun K hK => ?_)
                  · skip
                    go_simp
                    (try go_wp2_with fail)
                    refine hK.out _ _ (e1d) (fun hHeld => ?_)
                    clear hK K
                    try simp only [lay]
                    refine rd1 6 fun K hK => ?_
                    go_simp
                    rw [← HM1.out]
                    refine hK.out _ _ (HEM1.out) (fun hHeld => ?_)
                    clear hK K
                    try simp only [lay]
                    refine tk 7 (.agg #[.bool true, .map (some W2.heap.size), .slice none 0 0]) 113 ?_
                    refine rd1 8 fun K hK => ?_
                    go_simp
                    rw [← HM2.out]
                    refine hK.out _ _ (HEM2.out) (fun hHeld => ?_)
                    clear hK K
                    try simp only [lay]
                    have hs1 := HS1.out
                    try rw [hs1]
                    clear hs1
                    refine rd1 9 fun K hK => ?_
                    go_simp
                    (try go_wp2_with fail)
                    refine hK.out _ _ (HEM3.out) (fun hHeld => ?_)
                    clear hK K
                    try simp only [lay]
                    refine wpAnyH_done (by kernel_rfl) ?_ _
                    clear hrun c4 c41 c42 e1d hmm
                    go_wp2_with fail
                    go_roundw
                    case rel => exact ⟨j + 1, by omega, by go_num, by rw [HSN.out]; exact HFIN.out⟩
                    case measure => (simp [intOf]) <;> omega
                  · skip
                    go_simp
                    rw [← HM1.out]
                    refine hK.out _ _ (HEM1.out) (fun hHeld => ?_)
                    clear hK K
                    try simp only [lay]
                    refine tk 7 (.agg #[.bool true, .map (some W2.heap.size), .slice none 0 0]) 113 ?_
                    refine rd2 3 8 (fun K hK => ?_) (fun K hK => ?_)
                    · skip
                      go_simp
                      (try go_wp2_with fail)
                      refine hK.out _ _ (HEM1.out) (fun hHeld => ?_)
                      clear hK K
                      try simp only [lay]
                      refine rd1 8 fun K hK => ?_
                      go_simp
                      rw [← HM2.out]
                      refine hK.out _ _ (HEM2.out) (fun hHeld => ?_)
                      clear hK K
                      try simp only [lay]
                      have hs1 := HS1.out
                      try rw [hs1]
                      clear hs1
                      refine rd1 9 fun K hK => ?_
                      go_simp
                      (try go_wp2_with fail)
                      refine hK.out _ _ (HEM3.out) (fun hHeld => ?_)
                      clear hK K
                      try simp only [lay]
                      refine wpAnyH_done (by kernel_rfl) ?_ _
                      clear hrun c4 c41 c42 e1d hmm
                      go_wp2_with fail
                      go_roundw
                      case rel => exact ⟨j + 1, by omega, by go_num, by rw [HSN.out]; exact HFIN.out⟩
                      case measure => (simp [intOf]) <;> omega
                    · skip
                      go_simp
                      rw [← HM2.out]
                      refine hK.out _ _ (HEM2.out) (fun hHeld => ?_)
                      clear hK K
                      try simp only [lay]
                      refine rd1 3 fun K hK => ?_
                      go_simp
                      (try go_wp2_with fail)
                      refine hK.out _ _ (HEM2.out) (fun hHeld => ?_)
                      clear hK K
                      try simp only [lay]
                      have hs1 := HS1.out
                      try rw [hs1]
                      clear hs1
                      refine rd1 9 fun K hK => ?_
                      go_simp
                      (try go_wp2_with fail)
                      refine hK.out _ _ (HEM3.out) (fun hHeld => ?_)
                      clear hK K
                      try simp only [lay]
                      refine wpAnyH_done (by kernel_rfl) ?_ _
                      clear hrun c4 c41 c42 e1d hmm
                      go_wp2_with fail
                      go_roundw
                      case rel => exact ⟨j + 1, by omega, by go_num, by rw [HSN.out]; exact HFIN.out⟩
                      case measure => (simp [intOf]) <;> omega
                · have HKN := Lib.hid (show ck ≠ 0 ∧ ck ≠ 1 ∧ ck ≠ 2 ∧ ck ≠ 3 from ⟨h0, h1, h2, h3⟩)
                  have q0 : ((ck : Int) == 0) = false := by simpa using h0
                  have q1 : ((ck : Int) == 1) = false := by simpa using h1
                  have q2 : ((ck : Int) == 2) = false := by simpa using h2
                  have q3 : ((ck : Int) == 3) = false := by simpa using h3
                  clear h0 h1 h2 h3
                  have HFIN := Lib.hid (show AddS50 K0 W0 W2 (applyC Uj ⟨ck, ci, ckey, cdat, cvol⟩ (k)) from ⟨kj, HLJ.out, by rw [apply9 _ _ _ HKN.out.1 HKN.out.2.1 HKN.out.2.2.1 HKN.out.2.2.2]; exact HUJ.out.below HB2.out, HMJ.out.step HB2.out⟩)
                  go_wp2_with fail
                  go_roundw
                  case rel => exact ⟨j + 1, by omega, by go_num, by rw [HSN.out]; exact HFIN.out⟩
                  case measure => (simp [intOf]) <;> omega
        · have gj : ((j : Int) == 0) = false := by simp; omega
          rw [if_neg hj0] at HSN
          have HOKS := Lib.hid (show ckey.length ≤ 9223372036854775807 from by have := HKL.out.len.1; simp only at this; omega)
          clear hj0
          by_cases h0 : ck = 0
          · subst h0
            go_upto_region 16 with fail
            refine wp_region_held_drew (S := fun W => W.cell? ⟨wr.heap.size, 1, none⟩ = some (.int .i64 ci) ∧ W.cell? ⟨wr.heap.size, 3, none⟩ = some (.string ⟨cdat.toArray⟩)) (by kernel_rfl) ⟨e1, e3⟩ (fun hHeld => ?_)
            refine tk 0 (.pointer (some ⟨kj.p, 0, none⟩)) 56 ?_
            refine tk 1 (.pointer (some ⟨wr.heap.size, 1, none⟩)) 57 ?_
            refine tk 2 (.int .i64 ci) 58 ?_
            refine tk 7 (.string ⟨(ckey).toArray⟩) 63 ?_
            refine tk 8 (.pointer (some ⟨wr.heap.size, 3, none⟩)) 64 ?_
            refine tk 9 (.string ⟨cdat.toArray⟩) 65 ?_
            refine tk 10 (.agg #[.bool true, .string ⟨cdat.toArray⟩]) 66 ?_
            refine rd1 3 fun K hK => ?_
            go_simp
            refine (HSET.out W2.drew (below_drewN HB2.out 1)).mono ?_
            rintro e V2 ⟨k', o, rfl, hlike, hlk, hun, hmv, _, hox⟩
            obtain ⟨V3, hrun0, hm3, hg3, _⟩ := amap_update (P := Tryz.prog) keyStr Tryz.underlying201 (hun.at hlk).keys (show okS (ckey) from HOKS.out) (some cdat)
            have hrun : (Instr.mapUpdate 201 (.map (some o.kb)) (.string ⟨(ckey).toArray⟩) (.agg #[.bool true, .string ⟨cdat.toArray⟩])).run Tryz.prog V2 = .ok () V3 := hrun0
            have hkey := hun.keyed hlk hm3 hg3
            have d1 : V2.cell? ⟨o.p, 1, none⟩ = some (.map (some o.kb)) := cell_at (i := 1) (hun.at hlk).row rfl
            have hE1 := (hmv.only.cell (p := ⟨wr.heap.size, 1, none⟩) (block_lt_of_cell e1) HCB.out).trans e1
            have hE3 := (hmv.only.cell (p := ⟨wr.heap.size, 3, none⟩) (block_lt_of_cell e3) HCB.out).trans e3
            have hon3 : Only [o.kb] V2 V3 := (Only.refl _ _).grown hg3 (fun x hx => Or.inl (by rw [Option.some.inj hx.symm]; simp))
            have hck : wr.heap.size ∉ [o.kb] := fun hm => by
             obtain ⟨es9, cl9, h9⟩ := amap_block (hun.at hlk).keys
             rw [List.mem_singleton] at hm
             exact map_apart (hmv.only.heap HCBR.out HCB.out) h9 hm
            have HE3 := Lib.hid (And.intro ((hon3.cell (p := ⟨wr.heap.size, 1, none⟩) (block_lt_of_cell hE1) hck).trans hE1) ((hon3.cell (p := ⟨wr.heap.size, 3, none⟩) (block_lt_of_cell hE3) hck).trans hE3))
            have HFIN := Lib.hid (show AddS50 K0 W0 V3 (applyC Uj ⟨0, ci, ckey, cdat, cvol⟩ (ckey)) from AddS50.of hkey.1 hkey.2 (HMJ.out.trans ((Mv.of_below (below_drewN HB2.out 1)).trans hmv)) (HLJ.out.trans (hlike.trans ⟨rfl, rfl, rfl, rfl⟩)) (by rw [hox]; exact (putOw_touch _ _ _).trans (apply0 Uj ⟨0, ci, ckey, cdat, cvol⟩ (ckey) rfl).symm))
            clear hlike hun hmv hox hm3 hg3 hrun0 hkey hon3 hck
            refine hK.out _ _ ⟨hE1, hE3⟩ (fun hHeld => ?_)
            clear hK K
            try simp only [lay]
            refine tk 4 (.pointer (some ⟨o.p, 0, none⟩)) 60 ?_
            refine tk 5 (.pointer (some ⟨o.p, 1, none⟩)) 61 ?_
            refine rd1 6 fun K hK => ?_
            go_simp
            (try go_wp2_with fail)
            refine hK.out _ _ (⟨hE1, hE3⟩) (fun hHeld => ?_)
            clear hK K
            try simp only [lay]
            refine rd1 11 fun K hK => ?_
            go_simp
            (try go_wp2_with fail)
            refine hK.out _ _ (HE3.out) (fun hHeld => ?_)
            clear hK K
            try simp only [lay]
            refine wpAnyH_done (by kernel_rfl) ?_ _
            clear hrun d1 hE1 hE3 e0 e1 e2 e3 e4 hst hl1 hl1x
            go_wp2_with fail
            go_roundw
            case rel => exact ⟨j + 1, by omega, by go_num, by rw [HSN.out]; exact HFIN.out⟩
            case measure => (simp [intOf]) <;> omega
          · by_cases h1 : ck = 1
            · subst h1
              clear h0
              go_wp2_with fail
              refine (HSET.out W2 HB2.out).mono ?_
              rintro e V2 ⟨k', o, rfl, hlike, hlk, hun, hmv, _, hox⟩
              have d1 : V2.cell? ⟨o.p, 1, none⟩ = some (.map (some o.kb)) := cell_at (i := 1) (hun.at hlk).row rfl
              have HUN := Lib.hid hun
              have HLK := Lib.hid hlk
              have HLIKE := Lib.hid hlike
              have HMV := Lib.hid hmv
              have HOX := Lib.hid hox
              clear hun hlk hlike hmv hox e0 e1 e2 e3 e4 hst hl1 hl1x
              go_wp2_with (refine wpList_aupdate rfl _ _ _ rfl keyStr Tryz.underlying201 (HUN.out.at HLK.out).keys rfl (ckey) rfl HOKS.out (none : Option By) rfl ?_)
              intro V3 hm3 hg3 _
              have hkey := HUN.out.keyed HLK.out hm3 hg3
              have HFIN := Lib.hid (show AddS50 K0 W0 V3 (applyC Uj ⟨1, ci, ckey, cdat, cvol⟩ (ckey)) from AddS50.of hkey.1 hkey.2 (HMJ.out.trans ((Mv.of_below HB2.out).trans HMV.out)) (HLJ.out.trans (HLIKE.out.trans ⟨rfl, rfl, rfl, rfl⟩)) (by rw [HOX.out]; exact (putOw_touch _ _ _).trans (apply1 Uj ⟨1, ci, ckey, cdat, cvol⟩ (ckey) rfl).symm))
              clear hkey hm3 hg3 d1
              go_wp2_with fail
              go_roundw
              case rel => exact ⟨j + 1, by omega, by go_num, by rw [HSN.out]; exact HFIN.out⟩
              case measure => (simp [intOf]) <;> omega
            · by_cases h2 : ck = 2
              · subst h2
                clear h0 h1
                have HLNS := Lib.hid (show ({ ownOf Uj ci with keys := aset (ownOf Uj ci).keys (ckey) (some cdat) } : Ow).lens.length ≤ 1000000 from HLNS0.out)
                go_wp2_with fail
                refine (HSET.out W2 HB2.out).mono ?_
                rintro e V2 ⟨k', o, rfl, hlike, hlk, hun, hmv, _, hox⟩
                have hunD := hun.below (below_drewN (Below.refl V2.heap.size V2) 1)
                obtain ⟨V3, hrun0, hm3, hg3, hsz3⟩ := amap_update (P := Tryz.prog) keyStr Tryz.underlying201 (hunD.at hlk).keys (show okS (ckey) from HOKS.out) (some cdat)
                have hrun : (Instr.mapUpdate 201 (.map (some o.kb)) (.string ⟨(ckey).toArray⟩) (.agg #[.bool true, .string ⟨cdat.toArray⟩])).run Tryz.prog V2.drew = .ok () V3 := hrun0
                have hkey := hunD.keyed hlk hm3 hg3
                have d1 : V2.drew.cell? ⟨o.p, 1, none⟩ = some (.map (some o.kb)) := cell_at (i := 1) (hunD.at hlk).row rfl
                have hE3 : V2.drew.cell? ⟨wr.heap.size, 3, none⟩ = some (.string ⟨cdat.toArray⟩) := (hmv.only.cell (p := ⟨wr.heap.size, 3, none⟩) (block_lt_of_cell e3) HCB.out).trans e3
                have hon3 : Only [o.kb] V2.drew V3 := (Only.refl _ _).grown hg3 (fun x hx => Or.inl (by rw [Option.some.inj hx.symm]; simp))
                have hck : wr.heap.size ∉ [o.kb] := fun hm => by
                 obtain ⟨es9, cl9, h9⟩ := amap_block (hunD.at hlk).keys
                 rw [List.mem_singleton] at hm
                 exact map_apart (show V2.drew.heap[wr.heap.size]? = _ from hmv.only.heap HCBR.out HCB.out) h9 hm
                have hE3' : V3.cell? ⟨wr.heap.size, 3, none⟩ = some (.string ⟨cdat.toArray⟩) := (hon3.cell (p := ⟨wr.heap.size, 3, none⟩) (block_lt_of_cell hE3) hck).trans hE3
                obtain ⟨o2, ho2⟩ : ∃ o2 : OwK, o2 = { o with x := { o.x with keys := aset o.x.keys (ckey) (some cdat) } } := ⟨_, rfl⟩
                obtain ⟨k2, hk2⟩ : ∃ k2 : Uk, k2 = { k' with os := aset k'.os ci o2 } := ⟨_, rfl⟩
                rw [← ho2, ← hk2] at hkey
                have hlk2 : alook k2.os ci = some o2 := by rw [hk2]; exact alook_aset_same _ _ _
                have hp2 : o2.p = o.p := by rw [ho2]
                have hlike2 : k'.Like k2 := by rw [hk2]; exact ⟨rfl, rfl, rfl, rfl⟩
                have HUN3 := Lib.hid (show UnIn V3 k2 (putOw (touchU Uj ci) ci { ownOf Uj ci with keys := aset (ownOf Uj ci).keys (ckey) (some cdat) }) from by have := hkey.1; rw [hox] at this; exact this)
                have HX2 := Lib.hid (show o2.x = { ownOf Uj ci with keys := aset (ownOf Uj ci).keys (ckey) (some cdat) } by rw [ho2, ← show o.x = ownOf Uj ci from hox])
                have HMV3 := Lib.hid ((Mv.of_below HB2.out).trans (hmv.trans ((Mv.of_below (below_drewN (Below.refl V2.heap.size V2) 1)).trans hkey.2)))
                have HLK2 := Lib.hid hlk2
                have HLIKE2 := Lib.hid (HLJ.out.trans (hlike.trans hlike2))
                have HE3' := Lib.hid hE3'
                have HP2 := Lib.hid hp2
                clear hsz3 hlike hun hunD hmv hox hm3 hg3 hrun0 hkey hon3 hck hlk2 hlike2 hk2 ho2 hlk hE3' hp2 e0 e1 e2 e3 e4 hst hl1 hl1x
                go_upto_region 21 with fail
                refine wp_region_held_drew (S := fun W => W.cell? ⟨wr.heap.size, 3, none⟩ = some (.string ⟨cdat.toArray⟩)) (by kernel_rfl) hE3 (fun hHeld => ?_)
                refine tk 0 (ptrO o) 84 ?_
                refine tk 1 (.pointer (some ⟨o.p, 0, none⟩)) 85 ?_
                refine tk 2 (.pointer (some ⟨o.p, 1, none⟩)) 86 ?_
                refine tk 4 (.string ⟨(ckey).toArray⟩) 88 ?_
                refine tk 5 (.pointer (some ⟨wr.heap.size, 3, none⟩)) 89 ?_
                refine tk 6 (.string ⟨cdat.toArray⟩) 90 ?_
                refine tk 7 (.agg #[.bool true, .string ⟨cdat.toArray⟩]) 91 ?_
                refine rd1 3 fun K hK => ?_
                go_simp
                (try go_wp2_with fail)
                refine hK.out _ _ (hE3) (fun hHeld => ?_)
                clear hK K
                try simp only [lay]
                refine rd1 8 fun K hK => ?_
                go_simp
                (try go_wp2_with fail)
                refine hK.out _ _ (HE3'.out) (fun hHeld => ?_)
                clear hK K
                try simp only [lay]
                refine wpAnyH_done (by kernel_rfl) ?_ _
                clear hrun d1 hE3
                obtain ⟨va, vc, hv⟩ := RowE.spell encLn (HUN3.out.at HLK2.out).lens
                have HV := Lib.hid hv
                obtain ⟨O, hO⟩ : ∃ O, O = o2.x.lens := ⟨_, rfl⟩
                rw [← hO] at hv HV
                have HO := Lib.hid hO
                have d2 : V3.drew.cell? ⟨o.p, 2, none⟩ = some (.slice va O.length vc) := by rw [← HP2.out]; exact cell_at (w := V3.drew) (i := 2) (HUN3.out.at HLK2.out).row (by rw [← hv]; rfl)
                have e3 : V3.drew.cell? ⟨wr.heap.size, 3, none⟩ = some (.string ⟨cdat.toArray⟩) := HE3'.out
                obtain ⟨V1, hV1⟩ : ∃ V1, V1 = (V3.alloc (.cells (lnE cdat.length) 3)).drew := ⟨_, rfl⟩
                have hb1 : Below V3.heap.size V3 V1 := by rw [hV1]; exact (box_below0 V3 (lnE cdat.length) 3).drew
                have HG1 := Lib.hid (show V1.heap[V3.heap.size]? = some (.cells (lnE cdat.length) 3 (0, 0)) by rw [hV1]; exact heap_alloc_new V3 _)
                have HE1 := Lib.hid hV1
                have HB1x := Lib.hid hb1
                have HRow1 := Lib.hid (show LnRow V1 0 (.slice va O.length vc) O by rw [← hv, hO]; exact (HUN3.out.at HLK2.out).lens.below hb1)
                have HLC := Lib.hid (show V1.cell? ⟨o.p, 2, none⟩ = some (.slice va O.length vc) from (hb1.cell (p := ⟨o.p, 2, none⟩) (block_lt_of_cell d2)).trans d2)
                have HLN := Lib.hid (show O.length ≤ 1000000 from by rw [hO, HX2.out]; exact HLNS.out)
                have HEnd := Lib.hid (show ∀ (V2 : World) (va' : Option Addr) (vc' : Nat), LnRow V2 0 (.slice va' (O ++ [cdat.length]).length vc') (O ++ [cdat.length]) → V1.grownBy V2 (Value.slice va O.length vc).ownBlock →
                 ((Value.slice va' (O ++ [cdat.length]).length vc').ownBlock = (Value.slice va O.length vc).ownBlock ∨ (Value.slice va' (O ++ [cdat.length]).length vc').ownBlock = some V1.heap.size) →
                 (∃ cs, V2.heap[o.p]? = some (.cells cs 203 (0, 0))) ∧ V2.frozen? ⟨o.p, 2, none⟩ = false ∧ V2.cell? ⟨o.p, 2, none⟩ = some (.slice va O.length vc) ∧
                 AddS50 K0 W0 (V2.setCell ⟨o.p, 2, none⟩ (.slice va' (O.length + 1) vc')) (applyC Uj ⟨2, ci, ckey, cdat, cvol⟩ (ckey)) from fun V2 va' vc' hR2 hg2 how => by
                 have hw := HUN3.out.at HLK2.out
                 have hon : Only o2.lv.ownBlock.toList V3 V2 := by rw [HV.out]; exact (Only.of_below HB1x.out).grown hg2 (fun y hy => Or.inl (by simp [hy]))
                 have hnp : o2.p ∉ o2.lv.ownBlock.toList := fun hm => by
                  obtain ⟨cs, hbk⟩ := own_block hw.lens (show o2.lv.ownBlock = some o2.p by simpa using hm)
                  exact types_apart hbk hw.row (by decide) rfl
                 have hp2 := hon.heap hw.row hnp
                 have hcl : V2.cell? ⟨o2.p, 2, none⟩ = some (.slice va O.length vc) := by rw [← HV.out]; exact cell_at (i := 2) hp2 rfl
                 have h3 := HUN3.out.lensed HLK2.out hon hR2 (fun y hy => by
                  rcases how with e | e
                  · exact Or.inl (by rw [HV.out, ← e]; exact hy)
                  · rw [e] at hy
                    obtain rfl : V1.heap.size = y := Option.some.inj hy
                    exact Or.inr HB1x.out.size)
                 rw [show (O ++ [cdat.length]).length = O.length + 1 by simp, HP2.out] at h3
                 rw [HP2.out] at hp2 hcl
                 refine ⟨⟨_, hp2⟩, frozen_of_row V2 o.p 2 _ _ hp2, hcl, AddS50.of h3.1 h3.2 (HMJ.out.trans HMV3.out) (HLIKE2.out.trans ⟨rfl, rfl, rfl, rfl⟩) ?_⟩
                 rw [HO.out, HX2.out]
                 exact (putOw_putOw _ _ _ _).trans ((putOw_touch _ _ _).trans (apply2 Uj ⟨2, ci, ckey, cdat, cvol⟩ (ckey) rfl).symm))
                clear hv hV1 hb1 hO
                go_upto_region 22 with fail
                refine wp_region_held_drew (S := fun _ => True) (by kernel_rfl) trivial (fun hHeld => ?_)
                refine tk 0 (ptrO o) 92 ?_
                refine tk 1 (ptrO o) 93 ?_
                refine tk 2 (.pointer (some ⟨o.p, 0, none⟩)) 94 ?_
                refine tk 3 (.pointer (some ⟨o.p, 2, none⟩)) 95 ?_
                refine tk 5 (.pointer (some ⟨wr.heap.size, 3, none⟩)) 97 ?_
                refine rd2 4 6 (fun K hK => ?_) (fun K hK => ?_)
                · skip
                  go_simp
                  (try go_wp2_with fail)
                  refine hK.out _ _ (trivial) (fun hHeld => ?_)
                  clear hK K
                  try simp only [lay]
                  refine rd1 6 fun K hK => ?_
                  go_simp
                  (try go_wp2_with fail)
                  refine hK.out _ _ (trivial) (fun hHeld => ?_)
                  clear hK K
                  try simp only [lay]
                  refine tk 7 (.int .i64 (cdat.length : Nat)) 99 ?_
                  refine rd1 8 fun K hK => ?_
                  go_simp
                  rw [← HE1.out]
                  (try go_wp2_with fail)
                  refine hK.out _ _ (trivial) (fun hHeld => ?_)
                  clear hK K
                  try simp only [lay]
                  refine rd1 9 fun K hK => ?_
                  refine step_append_one rfl _ _ rfl encLn 0 (.slice va O.length vc) O cdat.length rfl HRow1.out V3.heap.size rfl HG1.out rfl HLN.out (Nat.zero_le _) ?_
                  rintro v' V2 hrow2 hgr2 how2
                  obtain ⟨va', vc', rfl⟩ := RowE.spell encLn hrow2
                  obtain ⟨hp2, fz2, cl2, hend⟩ := HEnd.out V2 va' vc' hrow2 hgr2 how2
                  have HFIN := Lib.hid hend
                  have hln : (O ++ [cdat.length]).length = O.length + 1 := by simp
                  clear hrow2 hgr2 how2 hp2 hend
                  try rw [hln]
                  clear hln
                  refine hK.out _ _ trivial (fun hHeld => ?_)
                  clear hK K
                  try simp only [lay]
                  refine tk 10 (.pointer (some ⟨o.p, 0, none⟩)) 102 ?_
                  refine tk 11 (.pointer (some ⟨o.p, 2, none⟩)) 103 ?_
                  refine rd1 12 fun K hK => ?_
                  go_simp
                  (try go_wp2_with fail)
                  refine hK.out _ _ (trivial) (fun hHeld => ?_)
                  clear hK K
                  try simp only [lay]
                  refine wpAnyH_done (by kernel_rfl) ?_ _
                  clear fz2 cl2
                  go_wp2_with fail
                  go_roundw
                  case rel => exact ⟨j + 1, by omega, by go_num, by rw [HSN.out]; exact HFIN.out⟩
                  case measure => (simp [intOf]) <;> omega
                · skip
                  go_simp
                  (try go_wp2_with fail)
                  refine hK.out _ _ (trivial) (fun hHeld => ?_)
                  clear hK K
                  try simp only [lay]
                  refine tk 7 (.int .i64 (cdat.length : Nat)) 99 ?_
                  refine rd2 4 8 (fun K hK => ?_) (fun K hK => ?_)
                  · skip
                    go_simp
                    (try go_wp2_with fail)
                    refine hK.out _ _ (trivial) (fun hHeld => ?_)
                    clear hK K
                    try simp only [lay]
                    refine rd1 8 fun K hK => ?_
                    go_simp
                    rw [← HE1.out]
                    (try go_wp2_with fail)
                    refine hK.out _ _ (trivial) (fun hHeld => ?_)
                    clear hK K
                    try simp only [lay]
                    refine rd1 9 fun K hK => ?_
                    refine step_append_one rfl _ _ rfl encLn 0 (.slice va O.length vc) O cdat.length rfl HRow1.out V3.heap.size rfl HG1.out rfl HLN.out (Nat.zero_le _) ?_
                    rintro v' V2 hrow2 hgr2 how2
                    obtain ⟨va', vc', rfl⟩ := RowE.spell encLn hrow2
                    obtain ⟨hp2, fz2, cl2, hend⟩ := HEnd.out V2 va' vc' hrow2 hgr2 how2
                    have HFIN := Lib.hid hend
                    have hln : (O ++ [cdat.length]).length = O.length + 1 := by simp
                    clear hrow2 hgr2 how2 hp2 hend
                    try rw [hln]
                    clear hln
                    refine hK.out _ _ trivial (fun hHeld => ?_)
                    clear hK K
                    try simp only [lay]
                    refine tk 10 (.pointer (some ⟨o.p, 0, none⟩)) 102 ?_
                    refine tk 11 (.pointer (some ⟨o.p, 2, none⟩)) 103 ?_
                    refine rd1 12 fun K hK => ?_
                    go_simp
                    (try go_wp2_with fail)
                    refine hK.out _ _ (trivial) (fun hHeld => ?_)
                    clear hK K
                    try simp only [lay]
                    refine wpAnyH_done (by kernel_rfl) ?_ _
                    clear fz2 cl2
                    go_wp2_with fail
                    go_roundw
                    case rel => exact ⟨j + 1, by omega, by go_num, by rw [HSN.out]; exact HFIN.out⟩
                    case measure => (simp [intOf]) <;> omega
                  · skip
                    go_simp
                    rw [← HE1.out]
                    (try go_wp2_with fail)
                    refine hK.out _ _ (trivial) (fun hHeld => ?_)
                    clear hK K
                    try simp only [lay]
                    have dl : V1.cell? ⟨o.p, 2, none⟩ = some (.slice va O.length vc) := HLC.out
                    refine rd1 4 fun K hK => ?_
                    go_simp
                    (try go_wp2_with fail)
                    refine hK.out _ _ (trivial) (fun hHeld => ?_)
                    clear hK K
                    try simp only [lay]
                    clear dl
                    refine rd1 9 fun K hK => ?_
                    refine step_append_one rfl _ _ rfl encLn 0 (.slice va O.length vc) O cdat.length rfl HRow1.out V3.heap.size rfl HG1.out rfl HLN.out (Nat.zero_le _) ?_
                    rintro v' V2 hrow2 hgr2 how2
                    obtain ⟨va', vc', rfl⟩ := RowE.spell encLn hrow2
                    obtain ⟨hp2, fz2, cl2, hend⟩ := HEnd.out V2 va' vc' hrow2 hgr2 how2
                    have HFIN := Lib.hid hend
                    have hln : (O ++ [cdat.length]).length = O.length + 1 := by simp
                    clear hrow2 hgr2 how2 hp2 hend
                    try rw [hln]
                    clear hln
                    refine hK.out _ _ trivial (fun hHeld => ?_)
                    clear hK K
                    try simp only [lay]
                    refine tk 10 (.pointer (some ⟨o.p, 0, none⟩)) 102 ?_
                    refine tk 11 (.pointer (some ⟨o.p, 2, none⟩)) 103 ?_
                    refine rd1 12 fun K hK => ?_
                    go_simp
                    (try go_wp2_with fail)
                    refine hK.out _ _ (trivial) (fun hHeld => ?_)
                    clear hK K
                    try simp only [lay]
                    refine wpAnyH_done (by kernel_rfl) ?_ _
                    clear fz2 cl2
                    go_wp2_with fail
                    go_roundw
                    case rel => exact ⟨j + 1, by omega, by go_num, by rw [HSN.out]; exact HFIN.out⟩
                    case measure => (simp [intOf]) <;> omega
              · by_cases h3 : ck = 3
                · subst h3
                  clear h0 h1 h2
                  have hunD : UnIn W2 kj Uj := HUJ.out.below HB2.out
                  have hmm := @run_makeMap Tryz.prog
                  obtain ⟨M1, hM1⟩ : ∃ M1, M1 = (W2.alloc (.map #[] 0)).drew := ⟨_, rfl⟩
                  obtain ⟨M2, hM2⟩ : ∃ M2, M2 = M1.alloc (.cells #[.bool true, .map (some W2.heap.size), .slice none 0 0] 203) := ⟨_, rfl⟩
                  have s1 : M1.heap.size = W2.heap.size + 1 := by rw [hM1]; exact World.size_alloc _ _
                  have hbm1 : Below W2.heap.size W2 M1 := by rw [hM1]; exact ((Below.refl _ _).alloc (Nat.le_refl _) _).drew
                  have hbm : Below W2.heap.size W2 M2 := by rw [hM2]; exact hbm1.alloc hbm1.size _
                  have g1 : M2.heap[W2.heap.size + 1]? = some (.cells #[.bool true, .map (some W2.heap.size), .slice none 0 0] 203 (0, 0)) := by rw [hM2, ← s1]; exact heap_alloc_new _ _
                  have hmn : amap M2 W2.heap.size kS seenV okS [] := amap_keep (amap_new W2 kS seenV okS) (by rw [hM2]; exact (halloc _ _ (by omega)).trans (by subst hM1; rfl))
                  obtain ⟨V3, hrun0, hm3, hg3, _⟩ := amap_update (P := Tryz.prog) keyInt Tryz.underlying119 (amap_keep hunD.sets (hbm.block _ (amap_lt hunD.sets))) HI64.out (⟨W2.heap.size + 1, W2.heap.size, .slice none 0 0, ⟨true, [], []⟩⟩ : OwK)
                  have hrun : (Instr.mapUpdate 119 (.map (some kj.mb)) (.int .i64 ci) (.pointer (some ⟨W2.heap.size + 1, 0, none⟩))).run Tryz.prog M2 = .ok () V3 := hrun0
                  have hemp := hunD.emptied hbm g1 hmn hm3 hg3
                  have c4 : W2.cell? ⟨kj.p, 4, none⟩ = some (.map (some kj.mb)) := cell_at (i := 4) hunD.row rfl
                  have c41 := (hbm1.cell (p := ⟨kj.p, 4, none⟩) (block_lt_of_cell c4)).trans c4
                  have c42 := (hbm.cell (p := ⟨kj.p, 4, none⟩) (block_lt_of_cell c4)).trans c4
                  have e1d : W2.cell? ⟨wr.heap.size, 1, none⟩ = some (.int .i64 ci) := e1
                  have HEM1 := Lib.hid ((hbm1.cell (p := ⟨wr.heap.size, 1, none⟩) (block_lt_of_cell e1d)).trans e1d)
                  have hem2 := (hbm.cell (p := ⟨wr.heap.size, 1, none⟩) (block_lt_of_cell e1d)).trans e1d
                  have hon3 : Only [kj.mb] M2 V3 := (Only.refl _ _).grown hg3 (fun x hx => Or.inl (by rw [Option.some.inj hx.symm]; simp))
                  have HEM3 := Lib.hid ((hon3.cell (p := ⟨wr.heap.size, 1, none⟩) (block_lt_of_cell hem2) (fun hm => by rw [List.mem_singleton] at hm; exact HCB.out (by have hm : wr.heap.size = kj.mb := hm; rw [hm]; simp))).trans hem2)
                  have HEM2 := Lib.hid hem2
                  have HFIN := Lib.hid (show AddS50 K0 W0 V3 (applyC Uj ⟨3, ci, ckey, cdat, cvol⟩ (ckey)) from AddS50.of hemp.1 hemp.2 (HMJ.out.trans (Mv.of_below HB2.out)) (HLJ.out.trans ⟨rfl, rfl, rfl, rfl⟩) (apply3 _ _ _ rfl).symm)
                  have HM1 := Lib.hid hM1
                  have HM2 := Lib.hid hM2
                  have HS1 := Lib.hid s1
                  clear hunD hbm1 hbm g1 hmn hm3 hg3 hrun0 hemp hem2 hon3 hM1 hM2 s1
                  go_upto_region 24 with fail
                  clear hst e0 e1 e2 e3 e4 hl1 hl1x
                  refine wp_region_held_drew (S := fun W => W.cell? ⟨wr.heap.size, 1, none⟩ = some (.int .i64 ci)) (by kernel_rfl) e1d (fun hHeld => ?_)
                  refine tk 0 (.pointer (some ⟨kj.p, 0, none⟩)) 106 ?_
                  refine tk 1 (.pointer (some ⟨kj.p, 0, none⟩)) 107 ?_
                  refine tk 2 (.pointer (some ⟨kj.p, 4, none⟩)) 108 ?_
                  refine tk 4 (.pointer (some ⟨wr.heap.size, 1, none⟩)) 110 ?_
                  refine tk 5 (.int .i64 ci) 111 ?_
                  refine rd2 3 6 (fun K hK => ?_) (fun K hK => ?_)
                  · skip
                    go_simp
                    (try go_wp2_with fail)
                    refine hK.out _ _ (e1d) (fun hHeld => ?_)
                    clear hK K
                    try simp only [lay]
                    refine rd1 6 fun K hK => ?_
                    go_simp
                    rw [← HM1.out]
                    refine hK.out _ _ (HEM1.out) (fun hHeld => ?_)
                    clear hK K
                    try simp only [lay]
                    refine tk 7 (.agg #[.bool true, .map (some W2.heap.size), .slice none 0 0]) 113 ?_
                    refine rd1 8 fun K hK => ?_
                    go_simp
                    rw [← HM2.out]
                    refine hK.out _ _ (HEM2.out) (fun hHeld => ?_)
                    clear hK K
                    try simp only [lay]
                    have hs1 := HS1.out
                    try rw [hs1]
                    clear hs1
                    refine rd1 9 fun K hK => ?_
                    go_simp
                    (try go_wp2_with fail)
                    refine hK.out _ _ (HEM3.out) (fun hHeld => ?_)
                    clear hK K
                    try simp only [lay]
                    refine wpAnyH_done (by kernel_rfl) ?_ _
                    clear hrun c4 c41 c42 e1d hmm
                    go_wp2_with fail
                    go_roundw
                    case rel => exact ⟨j + 1, by omega, by go_num, by rw [HSN.out]; exact HFIN.out⟩
                    case measure => (simp [intOf]) <;> omega
                  · skip
                    go_simp
                    rw [← HM1.out]
                    refine hK.out _ _ (HEM1.out) (fun hHeld => ?_)
                    clear hK K
                    try simp only [lay]
                    refine tk 7 (.agg #[.bool true, .map (some W2.heap.size), .slice none 0 0]) 113 ?_
                    refine rd2 3 8 (fun K hK => ?_) (fun K hK => ?_)
                    · skip
                      go_simp
                      (try go_wp2_with fail)
                      refine hK.out _ _ (HEM1.out) (fun hHeld => ?_)
                      clear hK K
                      try simp only [lay]
                      refine rd1 8 fun K hK => ?_
                      go_simp
                      rw [← HM2.out]
                      refine hK.out _ _ (HEM2.out) (fun hHeld => ?_)
                      clear hK K
                      try simp only [lay]
                      have hs1 := HS1.out
                      try rw [hs1]
                      clear hs1
                      refine rd1 9 fun K hK => ?_
                      go_simp
                      (try go_wp2_with fail)
                      refine hK.out _ _ (HEM3.out) (fun hHeld => ?_)
                      clear hK K
                      try simp only [lay]
                      refine wpAnyH_done (by kernel_rfl) ?_ _
                      clear hrun c4 c41 c42 e1d hmm
                      go_wp2_with fail
                      go_roundw
                      case rel => exact ⟨j + 1, by omega, by go_num, by rw [HSN.out]; exact HFIN.out⟩
                      case measure => (simp [intOf]) <;> omega
                    · skip
                      go_simp
                      rw [← HM2.out]
                      refine hK.out _ _ (HEM2.out) (fun hHeld => ?_)
                      clear hK K
                      try simp only [lay]
                      refine rd1 3 fun K hK => ?_
                      go_simp
                      (try go_wp2_with fail)
                      refine hK.out _ _ (HEM2.out) (fun hHeld => ?_)
                      clear hK K
                      try simp only [lay]
                      have hs1 := HS1.out
                      try rw [hs1]
                      clear hs1
                      refine rd1 9 fun K hK => ?_
                      go_simp
                      (try go_wp2_with fail)
                      refine hK.out _ _ (HEM3.out) (fun hHeld => ?_)
                      clear hK K
                      try simp only [lay]
                      refine wpAnyH_done (by kernel_rfl) ?_ _
                      clear hrun c4 c41 c42 e1d hmm
                      go_wp2_with fail
                      go_roundw
                      case rel => exact ⟨j + 1, by omega, by go_num, by rw [HSN.out]; exact HFIN.out⟩
                      case measure => (simp [intOf]) <;> omega
                · have HKN := Lib.hid (show ck ≠ 0 ∧ ck ≠ 1 ∧ ck ≠ 2 ∧ ck ≠ 3 from ⟨h0, h1, h2, h3⟩)
                  have q0 : ((ck : Int) == 0) = false := by simpa using h0
                  have q1 : ((ck : Int) == 1) = false := by simpa using h1
                  have q2 : ((ck : Int) == 2) = false := by simpa using h2
                  have q3 : ((ck : Int) == 3) = false := by simpa using h3
                  clear h0 h1 h2 h3
                  have HFIN := Lib.hid (show AddS50 K0 W0 W2 (applyC Uj ⟨ck, ci, ckey, cdat, cvol⟩ (ckey)) from ⟨kj, HLJ.out, by rw [apply9 _ _ _ HKN.out.1 HKN.out.2.1 HKN.out.2.2.1 HKN.out.2.2.2]; exact HUJ.out.below HB2.out, HMJ.out.step HB2.out⟩)
                  go_wp2_with fail
                  go_roundw
                  case rel => exact ⟨j + 1, by omega, by go_num, by rw [HSN.out]; exact HFIN.out⟩
                  case measure => (simp [intOf]) <;> omega
      · have hltI : ¬ (j : Int) < (l.length : Int) := by omega
        have HFIN := Lib.hid (show AddS50 K0 W0 wr (applyL U0 k l) by
         have : AddS50 K0 W0 wr (applyL U0 k (l.take j)) := ⟨kj, hlike0, hun0, hmv0⟩
         rwa [List.take_of_length_le (by omega)] at this)
        clear hlike0 hun0 hmv0 hlt hpj
        go_wp2_with fail
        clear hltI
        go_ret
        exact ⟨by rw [HRE.out]; rfl, by rw [HRE.out]; obtain ⟨k', q1, q2, q3⟩ := HFIN.out; exact ⟨k', HLK0.out.trans q1, q2, HMV.out.trans q3⟩⟩
end
end Go.Proofs.YtcefkngblddpoaaGreatDoor

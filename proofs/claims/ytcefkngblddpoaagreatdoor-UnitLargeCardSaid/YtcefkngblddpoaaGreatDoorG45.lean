/-
  Plain: what a change of records does to a unit. No walk.
  Walk: filling in a key. Condition: the description is valid.
  Walk: Plan of a put into a keyed data set without alternate indexes. Condition: unit and manager lie in memory, nobody waits for a lock, texts are not too long.
-/
import Derived.Test.YtcefkngblddpoaaGreatDoorG44
namespace Go.Proofs.YtcefkngblddpoaaGreatDoor

section
set_option linter.unusedSimpArgs false
set_option linter.unusedVariables false
open Go.RowKit Go.Sort
/-- The key of a put into a keyed data set is filled in. -/
def complU (x : Co) (c : Ch) : Int × Ch := if x.org = 3 ∧ c.kind = 0 then complP x.z.kat.toNat x.z.klen.toNat x.len.toNat c else (0, c)
def rgC (c : Ch) : Rg := if c.kind = 3 then everyR else pointR c.key
/-- The locks of the changes of alternate indexes. -/
def locksU (u : Un) (L : Ls) : List Ch → Int × Ls
 | [] => (0, L)
 | c :: l => if (lockU u L c.id (rgC c) true).1 ≠ 0 then lockU u L c.id (rgC c) true else locksU u (lockU u L c.id (rgC c) true).2 l
/-- The plan of a change. -/
def pln (C : Int → List Pr) (u : Un) (L : Ls) (x : Co) (alts : List Co) (c : Ch) (k : By) : (List Ch × Int) × Ls :=
 if x.org = 0 then (([c], 0), L) else planU C u L x alts (if c.kind = 2 then { c with key := k } else c)
/-- What is done behind the target. -/
def recT (C : Int → List Pr) (u : Un) (L : Ls) (x : Co) (alts : List Co) (c : Ch) (k : By) (r : Rg) : (By × Int) × (Un × Ls) :=
 if (lockU u L c.id r true).1 ≠ 0 then (([], (lockU u L c.id r true).1), (u, (lockU u L c.id r true).2)) else
 if (pln C u (lockU u L c.id r true).2 x alts c k).1.2 ≠ 0 then (([], (pln C u (lockU u L c.id r true).2 x alts c k).1.2), (u, (pln C u (lockU u L c.id r true).2 x alts c k).2)) else
 if (locksU u (pln C u (lockU u L c.id r true).2 x alts c k).2 ((pln C u (lockU u L c.id r true).2 x alts c k).1.1.drop 1)).1 ≠ 0 then (([], (locksU u (pln C u (lockU u L c.id r true).2 x alts c k).2 ((pln C u (lockU u L c.id r true).2 x alts c k).1.1.drop 1)).1), (u, (locksU u (pln C u (lockU u L c.id r true).2 x alts c k).2 ((pln C u (lockU u L c.id r true).2 x alts c k).1.1.drop 1)).2)) else
 (if (addU u k (pln C u (lockU u L c.id r true).2 x alts c k).1.1).1 ≠ 0 then ([], (addU u k (pln C u (lockU u L c.id r true).2 x alts c k).1.1).1) else (k, 0), ((addU u k (pln C u (lockU u L c.id r true).2 x alts c k).1.1).2, (locksU u (pln C u (lockU u L c.id r true).2 x alts c k).2 ((pln C u (lockU u L c.id r true).2 x alts c k).1.1.drop 1)).2))
/-- What is done to a data set that may be changed so; T: the key and the range of the change, and an error. -/
def recX (C : Int → List Pr) (u : Un) (L : Ls) (x : Co) (alts : List Co) (c : Ch) (T : Ch → By × Rg × Int) : (By × Int) × (Un × Ls) :=
 if (complU x c).1 ≠ 0 then (([], (complU x c).1), (u, L)) else
 if chV (complU x c).2 = false then (([], 1), (u, L)) else
 if (T (complU x c).2).2.2 ≠ 0 then (([], (T (complU x c).2).2.2), (u, L)) else
 recT C u L x alts (complU x c).2 (T (complU x c).2).1 (T (complU x c).2).2.1
theorem oldU_free {C : Int → List Pr} {u : Un} {L : Ls} {x : Co} {c : Ch} (hq : L.queue = []) (he : (oldU C u L x c).1.2 ≠ 15) : (oldU C u L x c).2.queue = [] ∧ (oldU C u L x c).2.held.length ≤ L.held.length + 1 := by
 unfold oldU at he ⊢
 by_cases h : c.kind = 2
 · rw [if_pos h]; exact ⟨hq, by simp⟩
 · rw [if_neg h] at he ⊢; exact get_free hq he
theorem planU_free {C : Int → List Pr} {u : Un} {L : Ls} {x : Co} {alts : List Co} {c : Ch} (hq : L.queue = []) (he : (planU C u L x alts c).1.2 ≠ 15) : (planU C u L x alts c).2.queue = [] ∧ (planU C u L x alts c).2.held.length ≤ L.held.length + 1 + 2 * alts.length := by
 unfold planU at he ⊢
 by_cases h1 : sphP x alts = false ∨ chgA x c = false
 · rw [if_pos h1]; exact ⟨hq, by simp only; omega⟩
 · rw [if_neg h1] at he ⊢
   by_cases h2 : c.kind = 3
   · rw [if_pos h2]; exact ⟨hq, by simp only; omega⟩
   · rw [if_neg h2] at he ⊢
     by_cases h3 : (oldU C u L x c).1.2 ≠ 0 ∧ ((oldU C u L x c).1.2 ≠ 6 ∨ c.kind = 1)
     · rw [if_pos h3] at he ⊢
       have := oldU_free hq he
       exact ⟨this.1, by have := this.2; simp only; omega⟩
     · rw [if_neg h3] at he ⊢
       have f1 := oldU_free (C := C) (u := u) (x := x) (c := c) hq (by
        intro h15; rw [h15] at h3; exact h3 ⟨by decide, Or.inl (by decide)⟩)
       obtain ⟨A, hA⟩ : ∃ A, A = altsU C u c (oldU C u L x c).1.1 (decide ((oldU C u L x c).1.2 = 0)) alts ⟨[ownC c], [], (oldU C u L x c).2⟩ := ⟨_, rfl⟩
       have f2 := fun he' => altsU_free (C := C) (u := u) (c := c) (old := (oldU C u L x c).1.1) (th := decide ((oldU C u L x c).1.2 = 0)) (l := alts) (g := ⟨[ownC c], [], (oldU C u L x c).2⟩) f1.1 he'
       rw [← hA] at he f2 ⊢
       obtain ⟨e, g⟩ := A
       dsimp only at he f2 ⊢
       by_cases h4 : e ≠ 0
       · rw [if_pos h4] at he ⊢
         have := f2 he
         exact ⟨this.1, by have := this.2; have := f1.2; dsimp only at *; omega⟩
       · rw [if_neg h4] at he ⊢
         have := f2 (by omega)
         exact ⟨this.1, by have := this.2; have := f1.2; dsimp only at *; omega⟩
theorem altU_out (C : Int → List Pr) (u : Un) (c : Ch) (old : By) (th : Bool) (a : Co) (g : Pg) : ∃ l, (altU C u c old th a g).2.out = g.out ++ l := by
 unfold altU
 obtain ⟨s1, hs1⟩ : ∃ s1, s1 = sideP a old th := ⟨_, rfl⟩
 obtain ⟨s2, hs2⟩ : ∃ s2, s2 = sideP a c.dat (decide (c.kind ≠ 1)) := ⟨_, rfl⟩
 rw [← hs1, ← hs2]
 by_cases h1 : s1 = s2
 · rw [if_pos h1]; exact ⟨[], by simp⟩
 · rw [if_neg h1]
   cases s1 with
   | none => cases s2 with
     | none => exact ⟨[], by simp⟩
     | some k2 => by_cases hu : a.z.uniq = true <;> exact ⟨[], by simp [hu]⟩
   | some k1 => cases s2 with
     | none => exact ⟨_, rfl⟩
     | some k2 => by_cases hu : a.z.uniq = true <;> exact ⟨[⟨1, a.z.id, k1 ++ c.key, [], []⟩], by simp [hu]⟩
theorem altsU_out (C : Int → List Pr) (u : Un) (c : Ch) (old : By) (th : Bool) : ∀ (l : List Co) (g : Pg), ∃ m, (altsU C u c old th l g).2.out = g.out ++ m
 | [], g => ⟨[], by simp [altsU]⟩
 | a :: l, g => by
   have e1 : altsU C u c old th (a :: l) g = if (altU C u c old th a g).1 ≠ 0 then altU C u c old th a g else altsU C u c old th l (altU C u c old th a g).2 := rfl
   rw [e1]
   obtain ⟨m1, h1⟩ := altU_out C u c old th a g
   split
   · exact ⟨m1, h1⟩
   · obtain ⟨m2, h2⟩ := altsU_out C u c old th l (altU C u c old th a g).2
     exact ⟨m1 ++ m2, by rw [h2, h1, List.append_assoc]⟩
/-- A plan begins with the change itself. -/
theorem planU_cons {C : Int → List Pr} {u : Un} {L : Ls} {x : Co} {alts : List Co} {c : Ch} (he : (planU C u L x alts c).1.2 = 0) : ∃ l, (planU C u L x alts c).1.1 = ownC c :: l := by
 unfold planU at he ⊢
 by_cases h1 : sphP x alts = false ∨ chgA x c = false
 · rw [if_pos h1] at he; exact absurd he (by simp)
 · rw [if_neg h1] at he ⊢
   by_cases h2 : c.kind = 3
   · rw [if_pos h2]; exact ⟨_, rfl⟩
   · rw [if_neg h2] at he ⊢
     by_cases h3 : (oldU C u L x c).1.2 ≠ 0 ∧ ((oldU C u L x c).1.2 ≠ 6 ∨ c.kind = 1)
     · rw [if_pos h3] at he; exact absurd he h3.1
     · rw [if_neg h3] at he ⊢
       obtain ⟨m, hm⟩ := altsU_out C u c (oldU C u L x c).1.1 (decide ((oldU C u L x c).1.2 = 0)) alts ⟨[ownC c], [], (oldU C u L x c).2⟩
       obtain ⟨A, hA⟩ : ∃ A, A = altsU C u c (oldU C u L x c).1.1 (decide ((oldU C u L x c).1.2 = 0)) alts ⟨[ownC c], [], (oldU C u L x c).2⟩ := ⟨_, rfl⟩
       rw [← hA] at he hm ⊢
       obtain ⟨e, g⟩ := A
       dsimp only at he hm ⊢
       by_cases h4 : e ≠ 0
       · rw [if_pos h4] at he; exact absurd he h4
       · rw [if_neg h4, hm]
         exact ⟨m ++ g.puts, by simp⟩
/-- The lengths that a unit keeps grow by one with each change. -/
theorem applyC_len (u : Un) (c : Ch) (s : By) (id : Int) : (ownOf (applyC u c s) id).lens.length ≤ (ownOf u id).lens.length + 1 := by
 have key : ∀ (i : Int) (o : Ow), o.lens.length ≤ (ownOf u i).lens.length + 1 → (ownOf (putOw u i o) id).lens.length ≤ (ownOf u id).lens.length + 1 := by
  intro i o ho
  unfold ownOf putOw
  simp only
  rw [alook_aset]
  by_cases e : id = i
  · subst e; rw [if_pos rfl]; exact ho
  · rw [if_neg (by first | exact e | exact fun h => e h.symm)]; omega
 unfold applyC
 split
 · exact key _ _ (by simp only; omega)
 · split
   · exact key _ _ (by simp only; omega)
   · split
     · exact key _ _ (by simp)
     · split
       · exact key _ _ (by simp)
       · omega
theorem applyF_len : ∀ (l : List Ch) (u : Un) (id : Int), (ownOf (l.foldl (fun u c => applyC u c c.key) u) id).lens.length ≤ (ownOf u id).lens.length + l.length
 | [], u, id => by simp
 | c :: l, u, id => by
   have h1 := applyF_len l (applyC u c c.key) id
   have h2 := applyC_len u c c.key id
   rw [List.foldl_cons, List.length_cons]; omega
theorem applyL_len (u : Un) (k : By) (l : List Ch) (id : Int) : (ownOf (applyL u k l) id).lens.length ≤ (ownOf u id).lens.length + l.length := by
 cases l with
 | nil => simp [applyL]
 | cons c l =>
   have h1 := applyF_len l (applyC u c k) id
   have h2 := applyC_len u c k id
   show (ownOf (l.foldl (fun u c => applyC u c c.key) (applyC u c k)) id).lens.length ≤ _
   rw [List.length_cons]; omega
end

section
set_option linter.unusedSimpArgs false
set_option linter.unusedVariables false
open Go.RowKit Go.Sort
theorem complU_same (x : Co) (c : Ch) : (complU x c).2.kind = c.kind ∧ (complU x c).2.id = c.id ∧ (complU x c).2.dat = c.dat ∧ (complU x c).2.vol = c.vol := by
 unfold complU
 split
 · unfold complP
   split
   · exact ⟨rfl, rfl, rfl, rfl⟩
   · split <;> exact ⟨rfl, rfl, rfl, rfl⟩
 · exact ⟨rfl, rfl, rfl, rfl⟩
theorem complU_len {x : Co} {c : Ch} (hc : ChLen c) (hv : kvalP x.z x.org x.fmt x.len x.blk = true) : ChLen (complU x c).2 := by
 unfold complU
 split
 · rename_i h
   rw [h.1] at hv
   have hk := kv_klen hv
   unfold complP
   split
   · exact hc
   · rename_i k hko
     split
     · exact hc
     · refine ⟨hc.k64, ?_, hc.len.2⟩
       show k.length ≤ 50
       unfold keyOf at hko
       split at hko
       · injection hko with hko
         rw [← hko, List.length_take]
         omega
       · cases hko
 · exact hc
theorem compl_w (V : World) (x : Co) (c : Ch) (g : Nat) (hg : V.heap[g]? = some (.cells c.cs 36 (0, 0))) (hv : kvalP x.z x.org x.fmt x.len x.blk = true) (hc : ChLen c) :
 Calls Tryz.prog 143 #[.agg (dsE x), .pointer (some ⟨g, 0, none⟩)] V fun e w' => e = .returned (.int .i64 (complU x c).1) ∧ w'.heap[g]? = some (.cells (complU x c).2.cs 36 (0, 0)) ∧ Only [g] V w' := by
 obtain ⟨z, org, fmt, len, blk, ap, pa, cap, pl⟩ := x
 simp only at hv
 unfold complU
 by_cases h : org = 3 ∧ c.kind = 0
 · rw [if_pos h]
   obtain ⟨rfl, hk⟩ := h
   exact complete_of V c g z fmt len blk _ _ _ hg hk hv (keyOk_of hv) hc
 · rw [if_neg h]
   refine (complete_no V g c z org fmt len blk hg ((Decidable.em (org = 3)).elim (fun h3 => Or.inr (fun hk => h ⟨h3, hk⟩)) Or.inl)).mono ?_
   rintro e w' ⟨he, hb⟩
   exact ⟨he, heap_below hb (lt_of_block hg) hg, Only.of_below hb⟩
end

section
set_option maxRecDepth 100000
set_option maxHeartbeats 32000000
set_option linter.unusedSimpArgs false
set_option linter.unusedVariables false
open Go.RowKit Go.Sort
theorem sphere0_w (W : World) (x : Co) (pa : Option Addr) (cap : Nat) (alts : List Co) (hz : alts = []) : Calls Tryz.prog 179 #[.agg (dsE x), .slice pa alts.length cap] W fun e w' => e = .returned (.bool (sphP x alts)) ∧ Below W.heap.size W w' := by
 subst hz
 have e1 : sphP x [] = isBaseP x.z x.org x.fmt x.len x.blk := by unfold sphP sphL; simp
 rw [e1]
 exact isSphere_none W x.z x.org x.fmt x.len x.blk pa cap
theorem chg0_w (V : World) (x : Co) (c : Ch) (hc : ChLen c) (hv : kvalP x.z x.org x.fmt x.len x.blk = true) (hk : c.kind = 0) (ho : x.org = 3) : Calls Tryz.prog 180 #[.agg (dsE x), .agg c.cs] V fun e w' => e = .returned (.bool (chgA x c)) ∧ Below V.heap.size V w' := by
 obtain ⟨z, org, fmt, len, blk, ap, pa, cap, pl⟩ := x
 simp only at ho hv
 subst ho
 simp only [chgA, ofX]
 rw [if_neg (by omega), if_pos trivial, if_neg (by omega)]
 exact isChange_k V c z fmt len blk _ _ _ hk hv (keyOk_of hv) hc
theorem each0_w {alts : List Co} (hz : alts = []) (w : World) (S M : List Nat) (p m : Nat) (b : Bs) (u : Un) (k : Pk) (c : Ch) (old : By) (th : Bool) (g : Pg) (gA : Nat) (pa : Option Addr) (cap : Nat) (_alts : List Co) (h : PlIn w S M p m b u k c old th g)
 (hA : w.heap[gA]? = some (.cells #[.slice pa alts.length cap] 61 (0, 0))) (_hd : DsL w pa alts) (_hdis : ∀ q, pa = some q → alts ≠ [] → q.block ∉ k.m ++ M) (_hal : alts.length ≤ 100) (_hrd : ∀ a ∈ alts, RdOk b a.z.id) (_hold : old.length ≤ 100000) (_hcd : c.dat.length ≤ 100000) (_hck : c.key.length ≤ 100000) (_hq : g.L.queue = []) (_hf : g.L.held.length ≤ 700000) (_hno : g.out.length ≤ 500) (_hnp : g.puts.length ≤ 500) :
 Calls Tryz.prog 181 #[fn3 k, .pointer (some ⟨gA, 0, none⟩)] w fun e w' => PlR (altsU b.pairs u c old th alts g) S M p m b u k c old th w e w' := by
 subst hz
 refine (each_none w (fn3 k) gA pa cap (cell_at (i := 0) hA rfl)).mono ?_
 rintro e w' ⟨he, hw⟩
 rw [hw]
 exact ⟨he, k, M, Pk.Like.refl k, h, Mv.refl _ _⟩
section
attribute [local go_sem ↓] loadDs_down storeDs_down loadCh_down storeCh_down
theorem plan0_w (w : World) (S M : List Nat) (p m : Nat) (b : Bs) (u : Un) (L : Ls) (x : Co) (pa : Option Addr) (cap : Nat) (alts : List Co) (c : Ch) (h : UM w S M p m b.val u L) (hb : BsAt w M b) (hd : DsL w pa alts) (hdis : ∀ q, pa = some q → alts ≠ [] → q.block ∉ M) (hal : alts.length ≤ 100) (hrd : ∀ a ∈ alts, RdOk b a.z.id) (hxi : I64 x.z.id) (hc : ChLen c)
 (hv : kvalP x.z x.org x.fmt x.len x.blk = true) (hk0 : c.kind = 0) (horg : x.org = 3) (hz : alts = []) (hol : (getU b.pairs u L x.z.id c.key).1.1.length ≤ 100000) (hq : L.queue = []) (hf : L.held.length ≤ 600000) :
 Calls Tryz.prog 145 #[qvOf p, .agg (dsE x), .slice pa alts.length cap, .agg c.cs] w fun e w' => PlanR (planU b.pairs u L x alts c) M m w e w' := by
 obtain ⟨R, hR⟩ : ∃ R, R = planU b.pairs u L x alts c := ⟨_, rfl⟩
 rw [← hR]
 unfold planU at hR
 obtain ⟨W0, hW0, hpb, hb0, hs0⟩ := pbox_make w p x pa alts.length cap c
 have HW0 := Lib.hid hW0
 have HB0 := Lib.hid hb0
 have HPB := Lib.hid hpb
 have ldx := loadDs_at hpb.x rfl
 have cA := cell_at (i := 0) (v := .slice pa alts.length cap) hpb.a rfl
 have HSP := Lib.hid (sphere0_w W0 x pa cap alts hz)
 have HCH := Lib.hid (fun V => chg0_w V x c hc hv hk0 horg)
 have HU := Lib.hid h
 have HBS := Lib.hid hb
 have HDL := Lib.hid hd
 have HDI := Lib.hid hdis
 have HAL := Lib.hid hal
 have HRD := Lib.hid hrd
 have HXI := Lib.hid hxi
 have HC := Lib.hid hc
 have HK0 := Lib.hid hk0
 have HZ := Lib.hid hz
 have HOL := Lib.hid hol
 have HQ := Lib.hid hq
 have HF := Lib.hid hf
 have HS0 := Lib.hid hs0
 have HRR := Lib.hid hR
 have HML := Lib.hid (show ∀ y ∈ M, y < w.heap.size from fun y hy => h.mg.lt y hy)
 have HSL := Lib.hid (show ∀ y ∈ S, y < w.heap.size from fun y hy => h.un.lt y hy)
 have HPL := Lib.hid (show ∀ q, pa = some q → alts ≠ [] → q.block < w.heap.size from fun q e hne => by
  obtain ⟨b', off, e', _⟩ := hd hne
  have := hd.lt e' hne
  rw [e] at e'; injection e' with e'; rw [e']; exact this)
 clear hW0 hpb hb0 hs0 h hb hd hdis hal hrd hxi hc hv hk0 horg hz hol hq hf hR
 cases hsp : sphP x alts with
 | false =>
   rw [hsp] at HSP
   have HRE := Lib.hid (show R = (([], 1), L) by rw [HRR.out, if_pos (Or.inl hsp)])
   clear hsp
   go_enter Tryz.func145, Tryz.ntmps145
   go_upto_region 1 with fail
   rw [← HW0.out]
   go_wp2_with fail
   refine HSP.out.mono ?_
   rintro e V1 ⟨rfl, hb1⟩
   have HB1 := Lib.hid (HB0.out.trans (hb1.mono HB0.out.size))
   have HP1 := Lib.hid (HPB.out.below hb1)
   clear hb1 ldx cA
   go_wp2_with fail
   go_ret2
   exact PlanR.no HRE.out (HU.out.mg.below HB1.out) (Mv.of_below HB1.out)
 | true =>
   rw [hsp] at HSP
   cases hch : chgA x c with
   | false =>
     rw [hch] at HCH
     have HRE := Lib.hid (show R = (([], 1), L) by rw [HRR.out, if_pos (Or.inr hch)])
     clear hsp hch
     go_enter Tryz.func145, Tryz.ntmps145
     go_upto_region 1 with fail
     rw [← HW0.out]
     go_wp2_with fail
     refine HSP.out.mono ?_
     rintro e V1 ⟨rfl, hb1⟩
     have HB1 := Lib.hid (HB0.out.trans (hb1.mono HB0.out.size))
     have HP1 := Lib.hid (HPB.out.below hb1)
     clear hb1 ldx cA
     have ldx1 := loadDs_at HP1.out.x rfl
     have ldc1 := loadCh_at HP1.out.c rfl
     have HC1 := Lib.hid (HCH.out V1)
     go_wp2_with fail
     refine HC1.out.mono ?_
     rintro e V2 ⟨rfl, hb2⟩
     have HB2 := Lib.hid (HB1.out.trans (hb2.mono HB1.out.size))
     have HP2 := Lib.hid (HP1.out.below hb2)
     have HN2 := Lib.hid (show w.heap.size + 4 ≤ V2.heap.size by have := lt_of_block HP2.out.c; omega)
     clear hb2 ldx1 ldc1
     go_wp2_with fail
     go_ret2
     exact PlanR.no HRE.out (HU.out.mg.below HB2.out) (Mv.of_below HB2.out)
   | true =>
     rw [hch] at HCH
     have hRT := HRR.out
     rw [if_neg (by rw [hsp, hch]; simp)] at hRT
     have HRT0 := Lib.hid hRT
     clear hsp hch hRT HRR
     by_cases k3 : c.kind = 3
     · exact absurd k3 (by rw [HK0.out]; decide)
     · have g3 : ((c.kind : Int) == 3) = false := by simpa using k3
       have hRT := HRT0.out
       rw [if_neg k3] at hRT
       have HRT1 := Lib.hid hRT
       clear hRT HRT0
       by_cases k2 : c.kind = 2
       · exact absurd k2 (by rw [HK0.out]; decide)
       · have HK2 := Lib.hid k2
         have g2 : ((c.kind : Int) == 2) = false := by simpa using k2
         have gn : ((c.kind : Int) != 2) = true := by simpa using k2
         clear k3 k2
         go_enter Tryz.func145, Tryz.ntmps145
         go_upto_region 1 with fail
         rw [← HW0.out]
         go_wp2_with fail
         refine HSP.out.mono ?_
         rintro e V1 ⟨rfl, hb1⟩
         have HB1 := Lib.hid (HB0.out.trans (hb1.mono HB0.out.size))
         have HP1 := Lib.hid (HPB.out.below hb1)
         clear hb1 ldx cA
         have ldx1 := loadDs_at HP1.out.x rfl
         have ldc1 := loadCh_at HP1.out.c rfl
         have HC1 := Lib.hid (HCH.out V1)
         go_wp2_with fail
         refine HC1.out.mono ?_
         rintro e V2 ⟨rfl, hb2⟩
         have HB2 := Lib.hid (HB1.out.trans (hb2.mono HB1.out.size))
         have HP2 := Lib.hid (HP1.out.below hb2)
         have HN2 := Lib.hid (show w.heap.size + 4 ≤ V2.heap.size by have := lt_of_block HP2.out.c; omega)
         clear hb2 ldx1 ldc1
         obtain ⟨V3, hst3, hz3, hb3⟩ := put_ch V2 c
         have ldc2 := loadCh_at HP2.out.c rfl
         have ldc2z := loadCh_at (heap_below (box_below0 V2 chZ 36) (lt_of_block HP2.out.c) HP2.out.c) rfl
         have HB3 := Lib.hid (HB2.out.trans (hb3.mono HB2.out.size))
         have HP3 := Lib.hid (HP2.out.below hb3)
         have k03 := cell_at (i := 0) (v := .int .i64 c.kind) HP3.out.c rfl
         have HN3 := Lib.hid (show w.heap.size + 4 ≤ V3.heap.size by have := HN2.out; have := hb3.size; omega)
         have HZ3 := Lib.hid (show V3.heap[V2.heap.size]? = some (.cells (ownC c).cs 36 (0, 0)) by rw [show ownC c = c from if_neg HK2.out]; exact hz3)
         have ld3 := loadCh_at HZ3.out rfl
         clear hb3 hz3
         obtain ⟨V5, hV5, hr5, ho5, hb5, hs5⟩ := out_make V3 (ownC c)
         obtain ⟨r, hr⟩ : ∃ r, r = V3.heap.size := ⟨_, rfl⟩
         rw [← hr] at hV5 hr5 ho5 hs5
         have HV5 := Lib.hid hV5
         have HRo := Lib.hid hr
         have HR5 := Lib.hid hr5
         have HO5 := Lib.hid ho5
         have HB5 := Lib.hid (HB3.out.trans (hb5.mono HB3.out.size))
         have HP5 := Lib.hid (HP3.out.below hb5)
         have HS5 := Lib.hid hs5
         have HNR := Lib.hid (show w.heap.size + 4 ≤ r by rw [hr]; exact HN3.out)
         clear hV5 hr5 ho5 hb5 hs5 hr
         go_upto_region 7 with fail
         rw [← HRo.out, ← HV5.out]
         clear hst3 k03 ld3 ldc2 ldc2z
         have k05 := cell_at (i := 0) (v := .int .i64 c.kind) HP5.out.c rfl
         obtain ⟨V6, hV6, hz6, hb6, hs6⟩ := str_make V5
         have HS6 := Lib.hid (show V5.heap.size = r + 2 from HS5.out)
         obtain ⟨o, hO⟩ : ∃ o, o = V5.heap.size := ⟨_, rfl⟩
         rw [← hO] at hz6
         have HOo := Lib.hid hO
         have HV6 := Lib.hid hV6
         have HB6 := Lib.hid (HB5.out.trans (hb6.mono HB5.out.size))
         have HT6 := Lib.hid (show PSt w V6 S M M p m b u x pa alts.length cap c [] L r o from
          ⟨HP5.out.below hb6, heap_below hb6 (lt_of_block HR5.out) HR5.out, heap_below hb6 (lt_of_block HO5.out) HO5.out, hz6, HU.out.below HB6.out, Mv.of_below HB6.out, ⟨HNR.out, hO.trans HS6.out⟩, fun y h1 _ hm => by have := HML.out y hm; omega⟩)
         clear hV6 hz6 hb6 hs6 hO
         go_upto_region 12 with fail
         rw [← HV6.out, ← HOo.out]
         clear k05
         have k06 := cell_at (i := 0) (v := .int .i64 c.kind) HT6.out.box.c rfl
         have id6 := cell_at (i := 0) (v := .int .i64 x.z.id) HT6.out.box.x rfl
         have ky6 := cell_at (i := 2) (v := .string ⟨c.key.toArray⟩) HT6.out.box.c rfl
         have rr6 := cell_at (i := 0) (v := qvOf p) HT6.out.box.r rfl
         have HGT := Lib.hid (qget_w V6 S M p m b u L x.z.id c.key HT6.out.um (HBS.out.below HB6.out) HXI.out (by have := HC.out.len; omega) (canAsk_of HQ.out (by have := HF.out; omega)))
         have HOU := Lib.hid (show oldU b.pairs u L x c = getU b.pairs u L x.z.id c.key from if_neg HK2.out)
         have HEV := Lib.hid (nil_err (C := b.pairs) (u := u) (L := L) (id := x.z.id) (k := c.key))
         have HGF := Lib.hid (fun he => get_free (C := b.pairs) (u := u) (id := x.z.id) (k := c.key) HQ.out he)
         obtain ⟨q, hq⟩ : ∃ q, q = getU b.pairs u L x.z.id c.key := ⟨_, rfl⟩
         rw [← hq] at HGT HOU HEV HGF HOL
         obtain ⟨⟨old, er⟩, L1⟩ := q
         have HRT2 := HRT1.out
         rw [HOU.out] at HRT2
         have HRT3 := Lib.hid HRT2
         simp only [getT] at HGT
         clear hq HRT2 HRT1
         go_wp2_with fail
         refine HGT.out.mono ?_
         rintro e V7 ⟨rfl, M1, hm7, hv7⟩
         obtain ⟨fz7, cl7, hps⟩ := HT6.out.get HML.out hm7 hv7 old HSL.out
         obtain ⟨V8, hV8⟩ : ∃ X, X = V7.setCell ⟨o, 0, none⟩ (.string ⟨old.toArray⟩) := ⟨_, rfl⟩
         rw [← hV8] at hps
         have HV8 := Lib.hid hV8
         have HT8 := Lib.hid hps
         clear hm7 hv7 hps hV8 k06 id6 ky6 rr6
         go_upto_region 14 with fail
         rw [← HV8.out]
         clear fz7 cl7
         have k08 := cell_at (i := 0) (v := .int .i64 c.kind) HT8.out.box.c rfl
         have HLO := Lib.hid (show old.length ≤ 100000 from HOL.out)
         by_cases e0 : er = 0
         · subst e0
           have HGO := Lib.hid (show ¬ ((0 : Int) ≠ 0 ∧ ((0 : Int) ≠ 6 ∨ c.kind = 1)) by simp)
           have HN15 := Lib.hid (show (0 : Int) ≠ 15 by decide)
           obtain ⟨Vt, hVt, hpl, hbt⟩ := HT8.out.start HBS.out HSL.out true
           have HVt := Lib.hid hVt
           have HPLT := Lib.hid hpl
           have HBT := Lib.hid hbt
           have HQF := Lib.hid (And.intro (HGF.out HN15.out).1 (show L1.held.length ≤ 700000 by have := (HGF.out HN15.out).2; have := HF.out; omega))
           clear hVt hpl hbt
           go_upto_region 18 with fail
           rw [← HVt.out]
           have HEA := Lib.hid (each0_w HZ.out Vt S M1 p m b u _ c old true ⟨[ownC c], [], L1⟩ (w.heap.size + 2) pa cap alts HPLT.out (heap_below HBT.out (lt_of_block HT8.out.box.a) HT8.out.box.a) (HDL.out.only (HT8.out.mv.step HBT.out).only HDI.out) (fun q e hne hm => by
            have h1 := HPL.out q e hne
            have h2 := HNR.out
            rcases List.mem_append.1 hm with hm | hm
            · have := HPLT.out.low _ hm; simp only at this; omega
            · exact HT8.out.mv.apart (T := [q.block]) (fun y hy => by rw [List.mem_singleton] at hy; subst hy; exact ⟨HDI.out q e hne, h1⟩) q.block (by simp) hm) HAL.out HRD.out HLO.out (by have := HC.out.len; omega) (by have := HC.out.len; omega) HQF.out.1 HQF.out.2 (by simp) (by simp))
           have HLOW := Lib.hid (show ∀ y ∈ Pk.m ⟨o, V8.heap.size, w.heap.size + 3, w.heap.size, r + 1, V8.heap.size + 1, .slice (some ⟨r, 0, none⟩) 1 1, .slice none 0 0, w.heap.size⟩, w.heap.size ≤ y from HPLT.out.low)
           have HRT := Lib.hid (show R = (if (altsU b.pairs u c old true alts ⟨[ownC c], [], L1⟩).1 ≠ 0 then (([], (altsU b.pairs u c old true alts ⟨[ownC c], [], L1⟩).1), (altsU b.pairs u c old true alts ⟨[ownC c], [], L1⟩).2.L) else (((altsU b.pairs u c old true alts ⟨[ownC c], [], L1⟩).2.out ++ (altsU b.pairs u c old true alts ⟨[ownC c], [], L1⟩).2.puts, 0), (altsU b.pairs u c old true alts ⟨[ownC c], [], L1⟩).2.L)) from by
            rw [HRT3.out, if_neg HGO.out]
            rfl)
           have HTB := Lib.hid (HT8.out.mv.step HBT.out)
           have hle := altsU_len b.pairs u c old true alts ⟨[ownC c], [], L1⟩
           obtain ⟨G, hG⟩ : ∃ G, G = altsU b.pairs u c old true alts ⟨[ownC c], [], L1⟩ := ⟨_, rfl⟩
           rw [← hG] at HEA HRT hle
           obtain ⟨e3, g3⟩ := G
           have HLE := Lib.hid (show g3.out.length + g3.puts.length ≤ 1000000 by have := HAL.out; have h1 := hle.1; have h2 := hle.2; simp only [List.length_cons, List.length_nil] at h1 h2; omega)
           clear hG hle k08
           go_wp2_with fail
           refine HEA.out.mono ?_
           rintro e Vz ⟨rfl, kz, Mz, hlz, hpz, hmz⟩
           have HPZ := Lib.hid hpz
           have HKZ := Lib.hid (show kz.lo = w.heap.size from hlz.lo)
           have HKB := Lib.hid (show kz.bO = r + 1 from hlz.bO)
           have HKP := Lib.hid (show kz.bP = V8.heap.size + 1 from hlz.bP)
           have HMZ := Lib.hid hmz
           clear hpz hlz hmz
           by_cases h0 : e3 = 0
           · subst h0
             have HRE := Lib.hid (show R = ((g3.out ++ g3.puts, 0), g3.L) from HRT.out.trans (if_neg (by simp)))
             obtain ⟨oa, on, oc, hoV⟩ : ∃ a n c, kz.vO = .slice a n c := by obtain ⟨a, c, h⟩ := RowE.spell encCh HPZ.out.pg.rO; exact ⟨a, _, c, h⟩
             obtain ⟨qa, qn, qc, hqV⟩ : ∃ a n c, kz.vP = .slice a n c := by obtain ⟨a, c, h⟩ := RowE.spell encCh HPZ.out.pg.rP; exact ⟨a, _, c, h⟩
             have hrO := HPZ.out.pg.rO
             have hrP := HPZ.out.pg.rP
             rw [hoV] at hrO
             rw [hqV] at hrP
             obtain ⟨hnews, rfl⟩ := RowE.news encCh hrP
             have cOz : Vz.cell? ⟨r + 1, 0, none⟩ = some (.slice oa on oc) := by rw [← HKB.out]; exact cell_at (i := 0) HPZ.out.pg.cO (by rw [← hoV]; rfl)
             have cPz : Vz.cell? ⟨V8.heap.size + 1, 0, none⟩ = some (.slice qa g3.puts.length qc) := by rw [← HKP.out]; exact cell_at (i := 0) HPZ.out.pg.cP (by rw [← hqV]; rfl)
             have HNEW := Lib.hid hnews
             have HRO := Lib.hid hrO
             have HOV := Lib.hid hoV
             clear hnews hrO hrP hoV hqV
             go_wp2_with (at_builtin; go_must (refine wpList_append_many2 rfl _ _ rfl encCh 0 (.slice oa on oc) g3.out g3.puts qa qc rfl HRO.out rfl HNEW.out ?ea ?eb ?_))
             case ea => exact HLE.out
             case eb => exact Nat.zero_le _
             intro v9 w9 hrow9 hg9 how9
             have HFIN := Lib.hid (PlanR.fin HTB.out HPZ.out HMZ.out HLOW.out HKZ.out HOV.out hrow9 hg9 how9 HRE.out)
             clear hrow9 hg9 how9 cOz cPz
             go_wp2_with fail
             go_ret2
             exact HFIN.out
           · have g0 : ((e3 : Int) != 0) = true := by simpa using h0
             have HRE := Lib.hid (show R = (([], e3), g3.L) from HRT.out.trans (if_pos h0))
             clear h0
             go_wp2_with fail
             go_ret2
             exact PlanR.no HRE.out HPZ.out.um.mg (Mv.back2 HTB.out HMZ.out HLOW.out (fun y hy => HPZ.out.um.mg.lt y hy))
         · have ge0 : ((er : Int) != 0) = true := by simpa using e0
           have ge1 : ((er : Int) == 0) = false := by simpa using e0
           by_cases e6 : er = 6
           · subst e6
             by_cases k1 : c.kind = 1
             · have g1 : ((c.kind : Int) == 1) = true := by simpa using k1
               have HRE := Lib.hid (show R = (([], 6), L1) by rw [HRT3.out, if_pos ⟨by simp, Or.inr k1⟩])
               clear k1 e0
               go_wp2_with fail
               go_ret2
               exact PlanR.no HRE.out HT8.out.um.mg HT8.out.mv
             · have g1 : ((c.kind : Int) == 1) = false := by simpa using k1
               have HGO := Lib.hid (show ¬ ((6 : Int) ≠ 0 ∧ ((6 : Int) ≠ 6 ∨ c.kind = 1)) by simp [k1])
               have HN15 := Lib.hid (show (6 : Int) ≠ 15 by decide)
               clear k1 e0
               obtain ⟨Vt, hVt, hpl, hbt⟩ := HT8.out.start HBS.out HSL.out false
               have HVt := Lib.hid hVt
               have HPLT := Lib.hid hpl
               have HBT := Lib.hid hbt
               have HQF := Lib.hid (And.intro (HGF.out HN15.out).1 (show L1.held.length ≤ 700000 by have := (HGF.out HN15.out).2; have := HF.out; omega))
               clear hVt hpl hbt
               go_upto_region 18 with fail
               rw [← HVt.out]
               have HEA := Lib.hid (each0_w HZ.out Vt S M1 p m b u _ c old false ⟨[ownC c], [], L1⟩ (w.heap.size + 2) pa cap alts HPLT.out (heap_below HBT.out (lt_of_block HT8.out.box.a) HT8.out.box.a) (HDL.out.only (HT8.out.mv.step HBT.out).only HDI.out) (fun q e hne hm => by
                have h1 := HPL.out q e hne
                have h2 := HNR.out
                rcases List.mem_append.1 hm with hm | hm
                · have := HPLT.out.low _ hm; simp only at this; omega
                · exact HT8.out.mv.apart (T := [q.block]) (fun y hy => by rw [List.mem_singleton] at hy; subst hy; exact ⟨HDI.out q e hne, h1⟩) q.block (by simp) hm) HAL.out HRD.out HLO.out (by have := HC.out.len; omega) (by have := HC.out.len; omega) HQF.out.1 HQF.out.2 (by simp) (by simp))
               have HLOW := Lib.hid (show ∀ y ∈ Pk.m ⟨o, V8.heap.size, w.heap.size + 3, w.heap.size, r + 1, V8.heap.size + 1, .slice (some ⟨r, 0, none⟩) 1 1, .slice none 0 0, w.heap.size⟩, w.heap.size ≤ y from HPLT.out.low)
               have HRT := Lib.hid (show R = (if (altsU b.pairs u c old false alts ⟨[ownC c], [], L1⟩).1 ≠ 0 then (([], (altsU b.pairs u c old false alts ⟨[ownC c], [], L1⟩).1), (altsU b.pairs u c old false alts ⟨[ownC c], [], L1⟩).2.L) else (((altsU b.pairs u c old false alts ⟨[ownC c], [], L1⟩).2.out ++ (altsU b.pairs u c old false alts ⟨[ownC c], [], L1⟩).2.puts, 0), (altsU b.pairs u c old false alts ⟨[ownC c], [], L1⟩).2.L)) from by
                rw [HRT3.out, if_neg HGO.out]
                rfl)
               have HTB := Lib.hid (HT8.out.mv.step HBT.out)
               have hle := altsU_len b.pairs u c old false alts ⟨[ownC c], [], L1⟩
               obtain ⟨G, hG⟩ : ∃ G, G = altsU b.pairs u c old false alts ⟨[ownC c], [], L1⟩ := ⟨_, rfl⟩
               rw [← hG] at HEA HRT hle
               obtain ⟨e3, g3⟩ := G
               have HLE := Lib.hid (show g3.out.length + g3.puts.length ≤ 1000000 by have := HAL.out; have h1 := hle.1; have h2 := hle.2; simp only [List.length_cons, List.length_nil] at h1 h2; omega)
               clear hG hle k08
               go_wp2_with fail
               refine HEA.out.mono ?_
               rintro e Vz ⟨rfl, kz, Mz, hlz, hpz, hmz⟩
               have HPZ := Lib.hid hpz
               have HKZ := Lib.hid (show kz.lo = w.heap.size from hlz.lo)
               have HKB := Lib.hid (show kz.bO = r + 1 from hlz.bO)
               have HKP := Lib.hid (show kz.bP = V8.heap.size + 1 from hlz.bP)
               have HMZ := Lib.hid hmz
               clear hpz hlz hmz
               by_cases h0 : e3 = 0
               · subst h0
                 have HRE := Lib.hid (show R = ((g3.out ++ g3.puts, 0), g3.L) from HRT.out.trans (if_neg (by simp)))
                 obtain ⟨oa, on, oc, hoV⟩ : ∃ a n c, kz.vO = .slice a n c := by obtain ⟨a, c, h⟩ := RowE.spell encCh HPZ.out.pg.rO; exact ⟨a, _, c, h⟩
                 obtain ⟨qa, qn, qc, hqV⟩ : ∃ a n c, kz.vP = .slice a n c := by obtain ⟨a, c, h⟩ := RowE.spell encCh HPZ.out.pg.rP; exact ⟨a, _, c, h⟩
                 have hrO := HPZ.out.pg.rO
                 have hrP := HPZ.out.pg.rP
                 rw [hoV] at hrO
                 rw [hqV] at hrP
                 obtain ⟨hnews, rfl⟩ := RowE.news encCh hrP
                 have cOz : Vz.cell? ⟨r + 1, 0, none⟩ = some (.slice oa on oc) := by rw [← HKB.out]; exact cell_at (i := 0) HPZ.out.pg.cO (by rw [← hoV]; rfl)
                 have cPz : Vz.cell? ⟨V8.heap.size + 1, 0, none⟩ = some (.slice qa g3.puts.length qc) := by rw [← HKP.out]; exact cell_at (i := 0) HPZ.out.pg.cP (by rw [← hqV]; rfl)
                 have HNEW := Lib.hid hnews
                 have HRO := Lib.hid hrO
                 have HOV := Lib.hid hoV
                 clear hnews hrO hrP hoV hqV
                 go_wp2_with (at_builtin; go_must (refine wpList_append_many2 rfl _ _ rfl encCh 0 (.slice oa on oc) g3.out g3.puts qa qc rfl HRO.out rfl HNEW.out ?ea ?eb ?_))
                 case ea => exact HLE.out
                 case eb => exact Nat.zero_le _
                 intro v9 w9 hrow9 hg9 how9
                 have HFIN := Lib.hid (PlanR.fin HTB.out HPZ.out HMZ.out HLOW.out HKZ.out HOV.out hrow9 hg9 how9 HRE.out)
                 clear hrow9 hg9 how9 cOz cPz
                 go_wp2_with fail
                 go_ret2
                 exact HFIN.out
               · have g0 : ((e3 : Int) != 0) = true := by simpa using h0
                 have HRE := Lib.hid (show R = (([], e3), g3.L) from HRT.out.trans (if_pos h0))
                 clear h0
                 go_wp2_with fail
                 go_ret2
                 exact PlanR.no HRE.out HPZ.out.um.mg (Mv.back2 HTB.out HMZ.out HLOW.out (fun y hy => HPZ.out.um.mg.lt y hy))
           · have ge6 : ((er : Int) != 6) = true := by simpa using e6
             have HRE := Lib.hid (show R = (([], er), L1) by rw [HRT3.out, if_pos ⟨e0, Or.inl e6⟩])
             clear e0 e6
             go_wp2_with fail
             go_ret2
             exact PlanR.no HRE.out HT8.out.um.mg HT8.out.mv
end
end

end Go.Proofs.YtcefkngblddpoaaGreatDoor

/-
  Walk: the law ForwardRestores. Conditions: a string that can be in memory, the laid table.
  Plain mathematics: a content in the middle of the log is rolled to the whole. No walk, no condition.
  Walk: the law ForwardDumps. Conditions: the arguments in memory, the laid table.
-/
import Derived.Test.YtckpepfkfjdnhaaGreatDoorQD3
import Derived.Test.YtckpepfkfjdnhaaGreatDoorQVE
import Derived.Test.YtckpepfkfjdnhaaGreatDoorQZ
import Derived.Test.YtckpepfkfjdnhaaGreatDoorQJ17
import Derived.Test.YtckpepfkfjdnhaaGreatDoorQVB
import Derived.Test.YtckpepfkfjdnhaaGreatDoorQY
namespace Go.Proofs.YtckpepfkfjdnhaaGreatDoor

section
open Go.RowKit Go.Sort

section
attribute [local go_sem ↓] loadCo_down storeCo_down
end
end

section
open Go.RowKit Go.Sort
variable {z : Rest}

theorem roll_app {org fmt len : Int} : ∀ (m k : List Nu) (ap : Int) (l : List Pr), (rollF z org fmt len ap l m).1 = 0 → rollF z org fmt len ap l (m ++ k) = rollF z org fmt len (rollF z org fmt len ap l m).2.1 (rollF z org fmt len ap l m).2.2 k
 | [], _, _, _, _ => rfl
 | y :: m, k, ap, l, h => by
   by_cases hn : (doL z org fmt len ap l y.1 y.2.kind y.2.id y.2.key y.2.dat).1 ≠ 0
   · rw [rollF, if_pos hn] at h
     exact absurd h hn
   · have e1 : rollF z org fmt len ap l (y :: m) = rollF z org fmt len (doL z org fmt len ap l y.1 y.2.kind y.2.id y.2.key y.2.dat).2.1 (doL z org fmt len ap l y.1 y.2.kind y.2.id y.2.key y.2.dat).2.2 m := by rw [rollF, if_neg hn]
     have e2 : rollF z org fmt len ap l (y :: m ++ k) = rollF z org fmt len (doL z org fmt len ap l y.1 y.2.kind y.2.id y.2.key y.2.dat).2.1 (doL z org fmt len ap l y.1 y.2.kind y.2.id y.2.key y.2.dat).2.2 (m ++ k) := by rw [List.cons_append, rollF, if_neg hn]
     rw [e1] at h ⊢
     rw [e2]
     exact roll_app m k _ _ h
theorem allN_split (id : Int) (R : List Lr) (k : Nat) : allN id R = allN id (R.take k) ++ allN id (R.drop k) := by
 unfold allN
 rw [← List.flatMap_append, List.take_append_drop]
/-- What is rolled up to the middle, and from there. -/
theorem rollV_mid {org fmt len blk ap : Int} {l : List Pr} {R : List Lr} (k : Nat) (hl : l.length ≤ 40) (hR : R.length ≤ 6) (hx : ∀ x ∈ R, x.l.length ≤ 10) (h0 : (rollV z org fmt len blk ap l R).1 = 0) :
   (rollV z org fmt len blk ap l (R.take k)).1 = 0 ∧ valP z org fmt len blk (rollV z org fmt len blk ap l (R.take k)).2.1 (rollV z org fmt len blk ap l (R.take k)).2.2 = true ∧
     rollV z org fmt len blk (rollV z org fmt len blk ap l (R.take k)).2.1 (rollV z org fmt len blk ap l (R.take k)).2.2 R = rollV z org fmt len blk ap l R ∧ (rollV z org fmt len blk ap l (R.take k)).2.2.length ≤ 100 := by
 have hv : valP z org fmt len blk ap l = true := by
   cases h : valP z org fmt len blk ap l with
   | true => rfl
   | false =>
     unfold rollV at h0
     rw [if_pos (Or.inl h)] at h0; simp at h0
 have ha : R.all validR = true := by
   cases h : R.all validR with
   | true => rfl
   | false =>
     unfold rollV at h0
     rw [if_pos (Or.inr h)] at h0; simp at h0
 have hat : (R.take k).all validR = true := by
   rw [List.all_eq_true] at ha ⊢
   exact fun x hx => ha x (List.mem_of_mem_take hx)
 have e1 : rollV z org fmt len blk ap l R = rollF z org fmt len ap l (allN z.id R) := by unfold rollV; rw [if_neg (by rw [hv, ha]; simp)]
 have e2 : rollV z org fmt len blk ap l (R.take k) = rollF z org fmt len ap l (allN z.id (R.take k)) := by unfold rollV; rw [if_neg (by rw [hv, hat]; simp)]
 rw [e1] at h0 ⊢
 rw [e2]
 have hsp := allN_split z.id R k
 have hm0 : (rollF z org fmt len ap l (allN z.id (R.take k))).1 = 0 := by
   by_cases h : (rollF z org fmt len ap l (allN z.id (R.take k))).1 = 0
   · exact h
   · have h2 := roll_err (allN z.id (R.take k)) (allN z.id (R.drop k)) ap l h
     rw [← hsp] at h2
     rw [h2] at h0; exact absurd h0 h
 have hlen1 := allN_len (id := z.id) (R := R.take k) (fun x hx2 => hx x (List.mem_of_mem_take hx2))
 have htk : (R.take k).length ≤ 6 := by rw [List.length_take]; omega
 have hv2 := roll_valid (blk := blk) (allN z.id (R.take k)) ap l hv (allN_ok hat) (by omega) hm0
 have hln := roll_len (z := z) (org := org) (fmt := fmt) (len := len) (allN z.id (R.take k)) ap l
 refine ⟨hm0, hv2, ?_, by omega⟩
 have ht := roll_twice hm0
 have h0' : (rollF z org fmt len (rollF z org fmt len ap l (allN z.id (R.take k))).2.1 (rollF z org fmt len ap l (allN z.id (R.take k))).2.2 (allN z.id (R.take k))).1 = 0 := by rw [ht]
 unfold rollV
 rw [if_neg (by rw [hv2, ha]; simp)]
 conv => lhs; rw [hsp]
 conv => rhs; rw [hsp]
 rw [roll_app _ _ _ _ h0', ht, roll_app _ _ _ _ hm0]
theorem enc_len {A : Ar} (h : A.ok = true) : A.enc.length ≤ 1408 * (A.l.length + 1) := by
 obtain ⟨⟨_, h2, h3, _⟩, h5⟩ := archP_iff.1 h
 have hc := framesL_count (itemsA A.z A.org A.fmt A.len A.blk A.ap A.l) 0 (fun s hs => by
   unfold itemsA at hs
   rw [List.mem_cons] at hs
   rcases hs with rfl | hs
   · have := headA_len (z := A.z) (org := A.org) (fmt := A.fmt) (len := A.len) (blk := A.blk) (ap := A.ap) (n := A.l.length) h3 h2; omega
   · rw [List.mem_map] at hs
     obtain ⟨p, hp, rfl⟩ := hs
     have := itemA_len (h5 p hp); omega)
 have e : (itemsA A.z A.org A.fmt A.len A.blk A.ap A.l).length = A.l.length + 1 := by simp [itemsA]
 rw [e] at hc
 show (encF 0 (framesL (itemsA A.z A.org A.fmt A.len A.blk A.ap A.l))).length ≤ _
 rw [encF_len _ 0 (fun x hx => (framesL_len hx).2)]
 omega
end

section
open Go.RowKit Go.Sort
variable {z : Rest}

theorem fewLr_iff {R : List Lr} : fewL R = true ↔ R.length ≤ 6 ∧ ∀ x ∈ R, fewR 10 x.l = true := by
 unfold fewL; simp
theorem rollLr_len {org fmt len blk ap : Int} {l : List Pr} {R : List Lr} (hl : l.length ≤ 40) (hR : R.length ≤ 6) (hx : ∀ x ∈ R, x.l.length ≤ 10) : (rollV z org fmt len blk ap l R).2.2.length ≤ 100 := by
 unfold rollV
 split
 · simp
 · have h1 := roll_len (z := z) (org := org) (fmt := fmt) (len := len) (allN z.id R) ap l
   have h2 := allN_len (id := z.id) hx
   omega
theorem Recs.take {w : World} {B : Nat} {a : Option Addr} {R : List Lr} (h : Recs w B a R) (k : Nat) : Recs w B a (R.take k) :=
 ⟨fun hne => by
   obtain ⟨b, off, h1, h2, h3⟩ := h.cells (fun e => by subst e; simp at hne)
   exact ⟨b, off, h1, h2, fun i hi => by rw [List.getElem_take]; exact h3 i (by rw [List.length_take] at hi; omega)⟩, fun x hx => h.chs x (List.mem_of_mem_take hx)⟩
theorem prs_setRow3 {w : World} {B g : Nat} {a : Option Addr} {l : List Pr} (h : Prs w w.heap.size a l) (hn : ∀ p, a = some p → a = none ∨ B ≤ p.block) (hg : g < B) (cs : Array Value) : Prs (w.setRow g cs) (w.setRow g cs).heap.size a l := by
 have := prs_setRow (g := g) h (fun p hp => by
   rcases hn p hp with h | h
   · rw [hp] at h; cases h
   · omega) cs
 simpa using this
theorem val_keys {org fmt len blk ap : Int} {l : List Pr} (h : valP z org fmt len blk ap l = true) : ∀ p ∈ l, p.1.length ≤ 100000 ∧ p.2.length ≤ 100000 := fun p hp => by
 have := (val_pairs h).1 p hp
 unfold prOk at this
 simp only [Bool.and_eq_true, decide_eq_true_eq] at this
 omega

section
attribute [local go_sem ↓] loadCo_down storeCo_down loadCh_down loadNum_down
set_option maxRecDepth 100000 in
set_option maxHeartbeats 16000000 in
theorem law_dumps (w : World) (a : Option Addr) (cap : Nat) (l : List Pr) (org fmt len blk ap : Int) (ra : Option Addr) (rcap : Nat) (R : List Lr) (at' : Nat) (hP : Prs w w.heap.size a l) (_hlc : l.length ≤ cap) (_hcm : cap ≤ maxLen) (hvo : z.vol.length ≤ 9223372036854775807) (how : z.own.length ≤ 9223372036854775807) (hc0 : Codes w) (hR : Recs w w.heap.size ra R) (h64 : ∀ x ∈ R, ∀ c ∈ x.l, I64 c.kind)
   (hrc : R.length ≤ rcap) (hrn : ra = none → rcap = 0) (hat : at' ≤ 255) :
   Calls Tryz.prog 8 #[.agg (conC z org fmt len blk ap a l.length cap), .slice ra R.length rcap, .int .u8 at'] w fun e w' => e = .returned (.bool true) ∧ Below w.heap.size w w' := by
 obtain ⟨W0, hW0⟩ : ∃ W0, W0 = w.alloc (.cells (conC z org fmt len blk ap a l.length cap) 26) := ⟨_, rfl⟩
 have hx0 : W0.heap[w.heap.size]? = some (.cells (conC z org fmt len blk ap a l.length cap) 26 (0, 0)) := by rw [hW0]; exact heap_alloc_new _ _
 have hb0 : Below w.heap.size w W0 := by rw [hW0]; exact box_below0 _ _ _
 have HX0 := Lib.hid hx0
 have HB0 := Lib.hid hb0
 have HW := Lib.hid hW0
 have HP := Lib.hid hP
 have HC := Lib.hid hc0
 have HRC := Lib.hid hR
 have HN := Lib.hid hrn
 have lc := loadCo_at hx0 rfl
 have HF2 := Lib.hid (fun (W : World) (hb : Below w.heap.size w W) => fewl_any W w.heap.size ra rcap R (hR.below hb) hb.size)
 have H1 := Lib.hid (few49_any (z := z) 40 W0 w.heap.size a cap l org fmt len blk ap (hP.below hb0) hb0.size (by omega))
 clear hx0 hb0 hW0 hP hc0 hR hrn
 cases hf : fewC 40 l with
 | false =>
   rw [hf] at H1
   clear hf
   go_enter Tryz.func8, Tryz.ntmps8
   go_upto_region 1 with fail
   rw [← HW.out]
   go_wp2_with fail
   refine H1.out.mono ?_
   rintro e w1 ⟨rfl, hb1⟩
   have HB1 := Lib.hid (HB0.out.trans (hb1.mono HB0.out.size))
   clear hb1 lc
   go_wp2_with fail
   refine (awake_any w1 (HC.out.below HB1.out HC.out.pos)).mono ?_
   rintro e w2 ⟨rfl, hb2⟩
   have HB2 := Lib.hid (HB1.out.trans (hb2.mono HB1.out.size))
   clear hb2
   go_wp2_with fail
   go_ret
   exact ⟨rfl, HB2.out⟩
 | true =>
   have HF := Lib.hid (fewC_iff.1 hf)
   rw [hf] at H1
   clear hf
   cases hr : fewL R with
   | false =>
     rw [hr] at HF2
     clear hr
     go_enter Tryz.func8, Tryz.ntmps8
     go_upto_region 1 with fail
     rw [← HW.out]
     go_wp2_with fail
     refine H1.out.mono ?_
     rintro e w1 ⟨rfl, hb1⟩
     have HB1 := Lib.hid (HB0.out.trans (hb1.mono HB0.out.size))
     clear hb1 lc
     go_wp2_with fail
     refine (HF2.out w1 HB1.out).mono ?_
     rintro e w2 ⟨rfl, hb2⟩
     have HB2 := Lib.hid (HB1.out.trans (hb2.mono HB1.out.size))
     clear hb2
     go_wp2_with fail
     refine (awake_any w2 (HC.out.below HB2.out HC.out.pos)).mono ?_
     rintro e w3 ⟨rfl, hb3⟩
     have HB3 := Lib.hid (HB2.out.trans (hb3.mono HB2.out.size))
     clear hb3
     go_wp2_with fail
     go_ret
     exact ⟨rfl, HB3.out⟩
   | true =>
     obtain ⟨hR6, hRx⟩ := fewLr_iff.1 hr
     have HRx := Lib.hid (show ∀ x ∈ R, x.l.length ≤ 10 ∧ ∀ c ∈ x.l, ChLen c from fun x hx => by
       obtain ⟨h1, h2⟩ := fewR_iff.1 (hRx x hx)
       exact ⟨h1, fun c hc => ⟨h64 x hx c hc, h2 c hc⟩⟩)
     rw [hr] at HF2
     clear hr hRx h64
     have hl40 : l.length ≤ 40 := HF.out.1
     have HKL := Lib.hid (show ∀ p ∈ l, p.1.length ≤ 100000 ∧ p.2.length ≤ 100000 from fun p hp => by have := HF.out.2 p hp; omega)
     have HDU := Lib.hid (fun (W : World) (hb : Below w.heap.size w W) => dump_any ⟨z, org, fmt, len, blk, ap, l⟩ W w.heap.size a cap (HP.out.below hb) hb.size (by show l.length ≤ 5000; omega) hvo how (HC.out.below hb HC.out.pos) HKL.out)
     have HVA := Lib.hid (fun (W : World) (hb : Below w.heap.size w W) => fvalid_any (z := z) W w.heap.size a cap l org fmt len blk ap (HP.out.below hb) hb.size (by omega) hvo how (HC.out.below hb HC.out.pos) HKL.out)
     cases hv : valP z org fmt len blk ap l with
     | false =>
       rw [if_neg (by show ¬ valP z org fmt len blk ap l = true; rw [hv]; simp)] at HDU
       rw [hv] at HVA
       clear hv
       go_enter Tryz.func8, Tryz.ntmps8
       go_upto_region 1 with fail
       rw [← HW.out]
       go_wp2_with fail
       refine H1.out.mono ?_
       rintro e w1 ⟨rfl, hb1⟩
       have HB1 := Lib.hid (HB0.out.trans (hb1.mono HB0.out.size))
       have HX1 := Lib.hid (heap_below hb1 (lt_of_block HX0.out) HX0.out)
       clear hb1 lc
       go_wp2_with fail
       refine (HF2.out w1 HB1.out).mono ?_
       rintro e w3 ⟨rfl, hb3⟩
       have HB3 := Lib.hid (HB1.out.trans (hb3.mono HB1.out.size))
       have HX3 := Lib.hid (heap_below hb3 (lt_of_block HX1.out) HX1.out)
       have lc3 := loadCo_at HX3.out rfl
       clear hb3
       go_wp2_with fail
       refine (HDU.out w3 HB3.out).mono ?_
       rintro e w4 ⟨rfl, hb4⟩
       have HB4 := Lib.hid (HB3.out.trans (hb4.mono HB3.out.size))
       have lc4 := loadCo_at (heap_below hb4 (lt_of_block HX3.out) HX3.out) rfl
       clear hb4 lc3
       go_wp2_with fail
       refine (HVA.out w4 HB4.out).mono ?_
       rintro e w5 ⟨rfl, hb5⟩
       have HB5 := Lib.hid (HB4.out.trans (hb5.mono HB4.out.size))
       clear hb5 lc4
       go_wp2_with fail
       refine (awake_any w5 (HC.out.below HB5.out HC.out.pos)).mono ?_
       rintro e w6 ⟨rfl, hb6⟩
       go_wp2_with fail
       go_ret
       exact ⟨rfl, HB5.out.trans (hb6.mono HB5.out.size)⟩
     | true =>
       rw [if_pos (show Ar.val ⟨z, org, fmt, len, blk, ap, l⟩ = true from hv)] at HDU
       rw [hv] at HVA
       have hA0 : Ar.val ⟨z, org, fmt, len, blk, ap, l⟩ = true := hv
       have hel := enc_len (valP_ok hA0)
       have hrs := rst_enc _ hA0
       have HRS := Lib.hid (fun (W : World) (hb : Below w.heap.size w W) => restore_any (Ar.enc ⟨z, org, fmt, len, blk, ap, l⟩) W (by simp only at hel; omega) (HC.out.below hb HC.out.pos))
       rw [hrs] at HRS
       generalize Ar.enc ⟨z, org, fmt, len, blk, ap, l⟩ = s0 at HDU HRS
       have HD1 := Lib.hid (fun (W : World) (hb : Below w.heap.size w W) => froll_any (z := z) W a cap l org fmt len blk ap ra rcap R ((HP.out.below hb).mono hb.size) ((HRC.out.below hb).mono hb.size) (by omega) hvo how (HC.out.below hb HC.out.pos) HKL.out hR6 HRx.out)
       have HMI := Lib.hid (fun k => rollV_mid (z := z) (org := org) (fmt := fmt) (len := len) (blk := blk) (ap := ap) (l := l) (R := R) k hl40 hR6 (fun x hx => (HRx.out x hx).1))
       have HDL := Lib.hid (rollLr_len (z := z) (org := org) (fmt := fmt) (len := len) (blk := blk) (ap := ap) (l := l) (R := R) hl40 hR6 (fun x hx => (HRx.out x hx).1))
       clear hv hel hrs hA0
       go_enter Tryz.func8, Tryz.ntmps8
       go_upto_region 1 with fail
       rw [← HW.out]
       go_wp2_with fail
       refine H1.out.mono ?_
       rintro e w1 ⟨rfl, hb1⟩
       have HB1 := Lib.hid (HB0.out.trans (hb1.mono HB0.out.size))
       have HX1 := Lib.hid (heap_below hb1 (lt_of_block HX0.out) HX0.out)
       clear hb1 lc
       go_wp2_with fail
       refine (HF2.out w1 HB1.out).mono ?_
       rintro e w3 ⟨rfl, hb3⟩
       have HB3 := Lib.hid (HB1.out.trans (hb3.mono HB1.out.size))
       have HX3 := Lib.hid (heap_below hb3 (lt_of_block HX1.out) HX1.out)
       have lc3 := loadCo_at HX3.out rfl
       clear hb3
       go_wp2_with fail
       refine (HDU.out w3 HB3.out).mono ?_
       rintro e w4 ⟨rfl, hb4⟩
       have HB4 := Lib.hid (HB3.out.trans (hb4.mono HB3.out.size))
       have HX4 := Lib.hid (heap_below hb4 (lt_of_block HX3.out) HX3.out)
       have lc4 := loadCo_at HX4.out rfl
       clear hb4 lc3
       go_wp2_with fail
       refine (HVA.out w4 HB4.out).mono ?_
       rintro e w5 ⟨rfl, hb5⟩
       have HB5 := Lib.hid (HB4.out.trans (hb5.mono HB4.out.size))
       have HX5 := Lib.hid (heap_below hb5 (lt_of_block HX4.out) HX4.out)
       clear hb5 lc4
       go_wp2_with fail
       refine (HRS.out w5 HB5.out).mono ?_
       rintro e w6 h6
       obtain ⟨a6, c6, rfl, hp6, hc6, hm6, _⟩ := h6.ok _ rfl
       obtain ⟨W6, hst6, hW6, hbW6⟩ := put_co w6 z org fmt len blk ap a6 l.length c6
       have hb56 := h6.bel.trans (hbW6.mono h6.bel.size)
       have HB6 := Lib.hid (HB5.out.trans (hb56.mono HB5.out.size))
       have HX6 := Lib.hid (heap_below hb56 (lt_of_block HX5.out) HX5.out)
       have HP6 := Lib.hid ((hp6.below hbW6).mono hbW6.size)
       have HP06 := Lib.hid (HP.out.below HB6.out)
       have HY6 := Lib.hid hW6
       have lx6 := loadCo_at hW6 rfl
       have lc6 := loadCo_at HX6.out rfl
       clear h6 hp6 hbW6 hb56 hW6
       go_wp2_with fail
       refine (r49same_any (z := z) (z' := z) W6 W6.heap.size w.heap.size a6 a c6 cap l l org fmt len blk ap org fmt len blk ap HP6.out HP06.out (Nat.le_refl _) HB6.out.size (by omega)).mono ?_
       rw [sameC_refl]
       rintro e w7 ⟨rfl, hb7⟩
       have HB7 := Lib.hid (HB6.out.trans (hb7.mono HB6.out.size))
       have HX7 := Lib.hid (heap_below hb7 (lt_of_block HX6.out) HX6.out)
       have cx := cell_at (i := 21) (v := .int .i64 ap) (heap_below hb7 (lt_of_block HY6.out) HY6.out) rfl
       have cy := cell_at (i := 21) (v := .int .i64 ap) HX7.out rfl
       have lc7 := loadCo_at HX7.out rfl
       clear hb7 lx6 lc6 hst6
       obtain ⟨z1, o1, f1, n1, b1, p1, m, hm, hsame, hout⟩ := do_out z org fmt len blk (rollV z org fmt len blk ap l R) (by have := HDL.out; omega)
       have HO := Lib.hid hout
       have HM := Lib.hid hm
       have HSM := Lib.hid hsame
       clear hout hm hsame
       go_wp2_with fail
       refine (HD1.out w7 HB7.out).mono ?_
       rintro e w8 hD
       obtain ⟨a8, c8, rfl, hP8, hl8, hm8, hb8⟩ := HO.out _ _ _ _ hD
       obtain ⟨W8, hst8, hW8, hbW8⟩ := put_co w8 z1 o1 f1 n1 b1 p1 a8 m.length c8
       have hb78 := hb8.trans (hbW8.mono hb8.size)
       have HB8 := Lib.hid (HB7.out.trans (hb78.mono HB7.out.size))
       have HX8 := Lib.hid (heap_below hb78 (lt_of_block HX7.out) HX7.out)
       have HP8 := Lib.hid ((hP8.below hbW8).mono hbW8.size)
       have HY8 := Lib.hid hW8
       clear hD hP8 hl8 hm8 hb8 hW8 hbW8 hb78 lc7 cx cy
       by_cases hr0 : (rollV z org fmt len blk ap l R).1 = 0
       · obtain ⟨rfl, rfl, rfl, rfl, rfl, rfl, rfl⟩ := HSM.out hr0
         have HR0 := Lib.hid hr0
         rw [hr0]
         clear hr0
         go_wp2_with fail
         clear hst8
         generalize w8.heap.size = bw at HY8 ⊢
         have HRL := Lib.hid (show R.length ≤ 6 from hR6)
         obtain ⟨k, hk⟩ : ∃ k, k = at' % (R.length + 1) := ⟨_, rfl⟩
         have hkR : k ≤ R.length := by have := Nat.mod_lt at' (show 0 < R.length + 1 by omega); omega
         have hkl : (R.take k).length = k := by rw [List.length_take]; omega
         have hmi := HMI.out k HR0.out
         have HDM := Lib.hid (fun (W : World) (hb : Below w.heap.size w W) => froll_any (z := z1) W a cap l o1 f1 n1 b1 ap ra rcap (R.take k) ((HP.out.below hb).mono hb.size) ((HRC.out.take k).below hb |>.mono hb.size) (by omega) hvo how (HC.out.below hb HC.out.pos) HKL.out (by rw [hkl]; omega) (fun x hx => HRx.out x (List.mem_of_mem_take hx)))
         rw [hkl] at HDM
         generalize rollV z1 o1 f1 n1 b1 ap l (R.take k) = r2 at hmi HDM
         obtain ⟨m0, mv, mw, ml⟩ := hmi
         obtain ⟨r20, p2, l2⟩ := r2
         simp only at m0 mv mw ml HDM
         subst m0
         have HMV := Lib.hid mv
         have HMW := Lib.hid mw
         have hA2 : Ar.val ⟨z1, o1, f1, n1, b1, p2, l2⟩ = true := mv
         have hel2 := enc_len (valP_ok hA2)
         have hrs2 := rst_enc _ hA2
         have HK2 := Lib.hid (val_keys mv)
         have HD2 := Lib.hid (fun (W : World) (hb : Below w.heap.size w W) (a2 : Option Addr) (c2 : Nat) (hp : Prs W W.heap.size a2 l2) => dump_any ⟨z1, o1, f1, n1, b1, p2, l2⟩ W W.heap.size a2 c2 hp (Nat.le_refl _) (by show l2.length ≤ 5000; omega) hvo how (HC.out.below hb HC.out.pos) HK2.out)
         rw [if_pos hA2] at HD2
         have HR2 := Lib.hid (fun (W : World) (hb : Below w.heap.size w W) => restore_any (Ar.enc ⟨z1, o1, f1, n1, b1, p2, l2⟩) W (by simp only at hel2; omega) (HC.out.below hb HC.out.pos))
         rw [hrs2] at HR2
         have HD3 := Lib.hid (fun (W : World) (hb : Below w.heap.size w W) (a2 : Option Addr) (c2 : Nat) (hp : Prs W W.heap.size a2 l2) => froll_any (z := z1) W a2 c2 l2 o1 f1 n1 b1 p2 ra rcap R hp ((HRC.out.below hb).mono hb.size) (by omega) hvo how (HC.out.below hb HC.out.pos) HK2.out hR6 HRx.out)
         rw [mw] at HD3
         generalize Ar.enc ⟨z1, o1, f1, n1, b1, p2, l2⟩ = s2 at HD2 HR2
         clear mv mw hA2 hel2 hrs2 hkl HMI
         have ld8 : (loadCo ⟨w.heap.size, 0, none⟩).run Tryz.prog W8.drew = _ := loadCo_at (w := W8.drew) HX8.out rfl
         have la8 : (loadCo ⟨w.heap.size, 0, none⟩).run Tryz.prog (W8.alloc (.cells conZ 26)).drew = _ := loadCo_at (w := (W8.alloc (.cells conZ 26)).drew) ((halloc _ _ (lt_of_block HX8.out)).trans HX8.out) rfl
         have hkc : (k : Int) ≤ (rcap : Int) := by omega
         have hn1 : ¬ (R.length : Int) + 1 = 0 := by omega
         have hatI : (at' : Int) ≤ 255 := by omega
         have hBA : Below W8.heap.size W8 (W8.alloc (.cells conZ 26)).drew := bel_ad
         have HA := Lib.hid (HDM.out (W8.alloc (.cells conZ 26)).drew (HB8.out.trans (hBA.mono HB8.out.size)))
         have HBb := Lib.hid (HDM.out W8.drew (HB8.out.trans (below_drew1.mono HB8.out.size)))
         have HBA := Lib.hid hBA
         rcases ra with _ | ⟨rb, ro, rs⟩
         · obtain rfl : rcap = 0 := HN.out rfl
           have HR00 := Lib.hid (show R.length = 0 by omega)
           obtain rfl : k = 0 := by have := HR00.out; omega
           have wr1 : IntKind.i64.wrap ((R.length : Int) + 1) = (R.length : Int) + 1 := IntWalk.i64_in _ (by omega)
           have wr2 : IntKind.i64.wrap (at' : Int) = (at' : Int) := IntWalk.i64_in _ (by omega)
           have hrem : (at' : Int).tmod ((R.length : Int) + 1) = 0 := by rw [HR00.out, Int.tmod_eq_emod_of_nonneg (by omega)]; omega
           clear hk hkR hkc
           refine (fun (key : ∀ (W9 : World) (bm : Nat) (a9 : Option Addr) (c9 : Nat), Below W8.heap.size W8 W9 → W9.heap[bm]? = some (.cells (conC z1 o1 f1 n1 b1 p2 a9 l2.length c9) 26 (0, 0)) → Prs W9 W9.heap.size a9 l2 → (?Ga : World → Nat → Option Addr → Nat → Prop) W9 bm a9 c9) => ?maina) ?keya
           case maina =>
             go_region_law
               (first
                 | (go_simp
                    refine HBb.out.mono ?_
                    rintro e w9 hD
                    obtain ⟨⟨cs, rfl, h1, _⟩, hb9⟩ := hD
                    obtain ⟨a9, c9, rfl, hl9, hm9, hp9, _⟩ := h1 rfl
                    obtain ⟨W9, st9, hg9, hbz⟩ := put_co w9 z1 o1 f1 n1 b1 p2 a9 l2.length c9
                    have hb8 := (below_drew1 (w := W8)).trans (hb9.mono below_drew1.size)
                    have hbe := hb8.trans (hbz.mono hb8.size)
                    have hpe := (hp9.below hbz).mono hbz.size)
                 | (go_simp
                    refine HA.out.mono ?_
                    rintro e w9 hD
                    obtain ⟨⟨cs, rfl, h1, _⟩, hb9⟩ := hD
                    obtain ⟨a9, c9, rfl, hl9, hm9, hp9, hn9⟩ := h1 rfl
                    have hz9 := heap_below hb9 (by simp) (show (W8.alloc (.cells conZ 26)).drew.heap[W8.heap.size]? = _ from heap_alloc_new _ _)
                    have st9 := storeCo_at (cs := conC z1 o1 f1 n1 b1 p2 a9 l2.length c9) hz9 rfl rfl one_con
                    have hg9 := setRow_heap _ _ _ (conC z1 o1 f1 n1 b1 p2 a9 l2.length c9) _ _ hz9
                    have hb8 := HBA.out.trans (hb9.mono HBA.out.size)
                    have hbe := below_setRow hb8 (Nat.le_refl _) (conC z1 o1 f1 n1 b1 p2 a9 l2.length c9)
                    have hpe := prs_setRow3 hp9 hn9 (by simp : W8.heap.size < _) (conC z1 o1 f1 n1 b1 p2 a9 l2.length c9)
                    generalize w9.setRow W8.heap.size (conC z1 o1 f1 n1 b1 p2 a9 l2.length c9) = W9 at st9 hg9 hbe hpe))
             all_goals (first
               | (generalize w9.heap.size = bm at hg9 ⊢; exact key _ bm a9 c9 hbe hg9 hpe)
               | (generalize W8.heap.size = bm at hg9 ⊢; exact key _ bm a9 c9 hbe hg9 hpe))
           case keya =>
           intro W9 bm a9 c9 hb9 hg9 hp9
           have HB9 := Lib.hid (HB8.out.trans (hb9.mono HB8.out.size))
           have lx9 := loadCo_at hg9 rfl
           have HP9 := Lib.hid hp9
           have HY9 := Lib.hid (heap_below hb9 (lt_of_block HY8.out) HY8.out)
           have HQ9 := Lib.hid (HP8.out.below hb9)
           have HS9 := Lib.hid hb9.size
           clear hb9 hg9 hp9
           go_wp2_with fail
           refine (HD2.out W9 HB9.out a9 c9 HP9.out).mono ?_
           rintro e w10 ⟨rfl, hb10⟩
           have HB10 := Lib.hid (HB9.out.trans (hb10.mono HB9.out.size))
           have HY10 := Lib.hid (heap_below hb10 (lt_of_block HY9.out) HY9.out)
           have HQ10 := Lib.hid (HQ9.out.below (hb10.mono HS9.out))
           have HS10 := Lib.hid (Nat.le_trans HS9.out hb10.size)
           clear hb10 lx9
           go_wp2_with fail
           refine (HR2.out w10 HB10.out).mono ?_
           rintro e w11 h11
           obtain ⟨a11, c11, rfl, hp11, hc11, hm11, _⟩ := h11.ok _ rfl
           obtain ⟨W11, hst11, hW11, hbW11⟩ := put_co w11 z1 o1 f1 n1 b1 p2 a11 l2.length c11
           have hb11 := h11.bel.trans (hbW11.mono h11.bel.size)
           have HB11 := Lib.hid (HB10.out.trans (hb11.mono HB10.out.size))
           have HY11 := Lib.hid (heap_below hb11 (lt_of_block HY10.out) HY10.out)
           have HQ11 := Lib.hid (HQ10.out.below (hb11.mono HS10.out))
           have HS11 := Lib.hid (Nat.le_trans HS10.out hb11.size)
           have HP11 := Lib.hid ((hp11.below hbW11).mono hbW11.size)
           have lx11 := loadCo_at hW11 rfl
           clear h11 hp11 hbW11 hb11 hW11
           go_wp2_with fail
           refine (HD3.out W11 HB11.out a11 c11 HP11.out).mono ?_
           rintro e w12 hD
           obtain ⟨⟨cs, rfl, h1, _⟩, hb12⟩ := hD
           obtain ⟨a12, c12, rfl, hl12, hm12, hp12, _⟩ := h1 HR0.out
           rw [HR0.out]
           obtain ⟨W12, hst12, hW12, hbW12⟩ := put_co w12 z1 o1 f1 n1 b1 (rollV z1 o1 f1 n1 b1 ap l R).2.1 a12 (rollV z1 o1 f1 n1 b1 ap l R).2.2.length c12
           have hbb12 := hb12.trans (hbW12.mono hb12.size)
           have HB12 := Lib.hid (HB11.out.trans (hbb12.mono HB11.out.size))
           have HY12 := Lib.hid (heap_below hbb12 (lt_of_block HY11.out) HY11.out)
           have HQ12 := Lib.hid (HQ11.out.below (hbb12.mono HS11.out))
           have HS12 := Lib.hid (Nat.le_trans HS11.out hbb12.size)
           have HP12 := Lib.hid ((hp12.below hbW12).mono hbW12.size)
           have lx12 := loadCo_at hW12 rfl
           have ly12 := loadCo_at HY12.out rfl
           clear hp12 hb12 hbW12 hbb12 hW12 lx11 h1
           go_wp2_with fail
           refine (r49same_any (z := z1) (z' := z1) W12 W12.heap.size W8.heap.size a12 a8 c12 c8 (rollV z1 o1 f1 n1 b1 ap l R).2.2 (rollV z1 o1 f1 n1 b1 ap l R).2.2 o1 f1 n1 b1 (rollV z1 o1 f1 n1 b1 ap l R).2.1 o1 f1 n1 b1 (rollV z1 o1 f1 n1 b1 ap l R).2.1 HP12.out HQ12.out (Nat.le_refl _) HS12.out (by have := HDL.out; omega)).mono ?_
           rw [sameC_refl]
           rintro e w13 ⟨rfl, hb13⟩
           have HB13 := Lib.hid (HB12.out.trans (hb13.mono HB12.out.size))
           clear hb13 lx12 ly12
           go_wp2_with fail
           refine (awake_any w13 (HC.out.below HB13.out HC.out.pos)).mono ?_
           rintro e w14 ⟨rfl, hb14⟩
           go_wp2_with fail
           go_ret
           exact ⟨rfl, HB13.out.trans (hb14.mono HB13.out.size)⟩
         · have wr1 : IntKind.i64.wrap ((R.length : Int) + 1) = (R.length : Int) + 1 := IntWalk.i64_in _ (by omega)
           have wr2 : IntKind.i64.wrap (at' : Int) = (at' : Int) := IntWalk.i64_in _ (by omega)
           have hrem : (at' : Int).tmod ((R.length : Int) + 1) = (k : Int) := by rw [Int.tmod_eq_emod_of_nonneg (by omega), hk, Int.natCast_emod]; rfl
           have HKK := Lib.hid hk
           clear hk
           refine (fun (key : ∀ (W9 : World) (bm : Nat) (a9 : Option Addr) (c9 : Nat), Below W8.heap.size W8 W9 → W9.heap[bm]? = some (.cells (conC z1 o1 f1 n1 b1 p2 a9 l2.length c9) 26 (0, 0)) → Prs W9 W9.heap.size a9 l2 → (?Gb : World → Nat → Option Addr → Nat → Prop) W9 bm a9 c9) => ?mainb) ?keyb
           case mainb =>
             go_region_law
               (first
                 | (go_simp
                    refine HBb.out.mono ?_
                    rintro e w9 hD
                    obtain ⟨⟨cs, rfl, h1, _⟩, hb9⟩ := hD
                    obtain ⟨a9, c9, rfl, hl9, hm9, hp9, _⟩ := h1 rfl
                    obtain ⟨W9, st9, hg9, hbz⟩ := put_co w9 z1 o1 f1 n1 b1 p2 a9 l2.length c9
                    have hb8 := (below_drew1 (w := W8)).trans (hb9.mono below_drew1.size)
                    have hbe := hb8.trans (hbz.mono hb8.size)
                    have hpe := (hp9.below hbz).mono hbz.size)
                 | (go_simp
                    refine HA.out.mono ?_
                    rintro e w9 hD
                    obtain ⟨⟨cs, rfl, h1, _⟩, hb9⟩ := hD
                    obtain ⟨a9, c9, rfl, hl9, hm9, hp9, hn9⟩ := h1 rfl
                    have hz9 := heap_below hb9 (by simp) (show (W8.alloc (.cells conZ 26)).drew.heap[W8.heap.size]? = _ from heap_alloc_new _ _)
                    have st9 := storeCo_at (cs := conC z1 o1 f1 n1 b1 p2 a9 l2.length c9) hz9 rfl rfl one_con
                    have hg9 := setRow_heap _ _ _ (conC z1 o1 f1 n1 b1 p2 a9 l2.length c9) _ _ hz9
                    have hb8 := HBA.out.trans (hb9.mono HBA.out.size)
                    have hbe := below_setRow hb8 (Nat.le_refl _) (conC z1 o1 f1 n1 b1 p2 a9 l2.length c9)
                    have hpe := prs_setRow3 hp9 hn9 (by simp : W8.heap.size < _) (conC z1 o1 f1 n1 b1 p2 a9 l2.length c9)
                    generalize w9.setRow W8.heap.size (conC z1 o1 f1 n1 b1 p2 a9 l2.length c9) = W9 at st9 hg9 hbe hpe))
             all_goals (first
               | (generalize w9.heap.size = bm at hg9 ⊢; exact key _ bm a9 c9 hbe hg9 hpe)
               | (generalize W8.heap.size = bm at hg9 ⊢; exact key _ bm a9 c9 hbe hg9 hpe))
           case keyb =>
           intro W9 bm a9 c9 hb9 hg9 hp9
           have HB9 := Lib.hid (HB8.out.trans (hb9.mono HB8.out.size))
           have lx9 := loadCo_at hg9 rfl
           have HP9 := Lib.hid hp9
           have HY9 := Lib.hid (heap_below hb9 (lt_of_block HY8.out) HY8.out)
           have HQ9 := Lib.hid (HP8.out.below hb9)
           have HS9 := Lib.hid hb9.size
           clear hb9 hg9 hp9
           go_wp2_with fail
           refine (HD2.out W9 HB9.out a9 c9 HP9.out).mono ?_
           rintro e w10 ⟨rfl, hb10⟩
           have HB10 := Lib.hid (HB9.out.trans (hb10.mono HB9.out.size))
           have HY10 := Lib.hid (heap_below hb10 (lt_of_block HY9.out) HY9.out)
           have HQ10 := Lib.hid (HQ9.out.below (hb10.mono HS9.out))
           have HS10 := Lib.hid (Nat.le_trans HS9.out hb10.size)
           clear hb10 lx9
           go_wp2_with fail
           refine (HR2.out w10 HB10.out).mono ?_
           rintro e w11 h11
           obtain ⟨a11, c11, rfl, hp11, hc11, hm11, _⟩ := h11.ok _ rfl
           obtain ⟨W11, hst11, hW11, hbW11⟩ := put_co w11 z1 o1 f1 n1 b1 p2 a11 l2.length c11
           have hb11 := h11.bel.trans (hbW11.mono h11.bel.size)
           have HB11 := Lib.hid (HB10.out.trans (hb11.mono HB10.out.size))
           have HY11 := Lib.hid (heap_below hb11 (lt_of_block HY10.out) HY10.out)
           have HQ11 := Lib.hid (HQ10.out.below (hb11.mono HS10.out))
           have HS11 := Lib.hid (Nat.le_trans HS10.out hb11.size)
           have HP11 := Lib.hid ((hp11.below hbW11).mono hbW11.size)
           have lx11 := loadCo_at hW11 rfl
           clear h11 hp11 hbW11 hb11 hW11
           go_wp2_with fail
           refine (HD3.out W11 HB11.out a11 c11 HP11.out).mono ?_
           rintro e w12 hD
           obtain ⟨⟨cs, rfl, h1, _⟩, hb12⟩ := hD
           obtain ⟨a12, c12, rfl, hl12, hm12, hp12, _⟩ := h1 HR0.out
           rw [HR0.out]
           obtain ⟨W12, hst12, hW12, hbW12⟩ := put_co w12 z1 o1 f1 n1 b1 (rollV z1 o1 f1 n1 b1 ap l R).2.1 a12 (rollV z1 o1 f1 n1 b1 ap l R).2.2.length c12
           have hbb12 := hb12.trans (hbW12.mono hb12.size)
           have HB12 := Lib.hid (HB11.out.trans (hbb12.mono HB11.out.size))
           have HY12 := Lib.hid (heap_below hbb12 (lt_of_block HY11.out) HY11.out)
           have HQ12 := Lib.hid (HQ11.out.below (hbb12.mono HS11.out))
           have HS12 := Lib.hid (Nat.le_trans HS11.out hbb12.size)
           have HP12 := Lib.hid ((hp12.below hbW12).mono hbW12.size)
           have lx12 := loadCo_at hW12 rfl
           have ly12 := loadCo_at HY12.out rfl
           clear hp12 hb12 hbW12 hbb12 hW12 lx11 h1
           go_wp2_with fail
           refine (r49same_any (z := z1) (z' := z1) W12 W12.heap.size W8.heap.size a12 a8 c12 c8 (rollV z1 o1 f1 n1 b1 ap l R).2.2 (rollV z1 o1 f1 n1 b1 ap l R).2.2 o1 f1 n1 b1 (rollV z1 o1 f1 n1 b1 ap l R).2.1 o1 f1 n1 b1 (rollV z1 o1 f1 n1 b1 ap l R).2.1 HP12.out HQ12.out (Nat.le_refl _) HS12.out (by have := HDL.out; omega)).mono ?_
           rw [sameC_refl]
           rintro e w13 ⟨rfl, hb13⟩
           have HB13 := Lib.hid (HB12.out.trans (hb13.mono HB12.out.size))
           clear hb13 lx12 ly12
           go_wp2_with fail
           refine (awake_any w13 (HC.out.below HB13.out HC.out.pos)).mono ?_
           rintro e w14 ⟨rfl, hb14⟩
           go_wp2_with fail
           go_ret
           exact ⟨rfl, HB13.out.trans (hb14.mono HB13.out.size)⟩
       · go_wp2_with fail
         refine (awake_any W8 (HC.out.below HB8.out HC.out.pos)).mono ?_
         rintro e w9 ⟨rfl, hb9⟩
         go_wp2_with fail
         go_ret
         exact ⟨rfl, HB8.out.trans (hb9.mono HB8.out.size)⟩
end
end

end Go.Proofs.YtckpepfkfjdnhaaGreatDoor

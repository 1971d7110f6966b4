/-
  Walks: a read is noted; reading with a key. Condition: unit, manager and base lie in memory, apart; the lock can be asked for.
  Walk: reading with a key. Condition: unit, manager and base lie in memory, apart; the lock can be asked for.
-/
import Derived.Test.YtcefkngblddpoaaGreatDoorG34
import Derived.Great.Walk
namespace Go.Proofs.YtcefkngblddpoaaGreatDoor

section
set_option maxRecDepth 100000
set_option maxHeartbeats 8000000
set_option linter.unusedSimpArgs false
set_option linter.unusedVariables false
open Go.RowKit Go.Sort
theorem info_an : (Tryz.prog.info? 89).map (·.size) = some 3 := by kernel_rfl
def loadAn (p : Addr) : Sem Value := loadVar 89 p
theorem loadAn_down (p : Addr) : loadVar 89 p = loadAn p := rfl
def storeAn (p : Addr) (v : Value) : Sem Unit := storeVar 89 p v
theorem storeAn_down (p : Addr) (v : Value) : storeVar 89 p v = storeAn p v := rfl
abbrev anC (k r : By) (e : Int) : Array Value := #[.string ⟨k.toArray⟩, .string ⟨r.toArray⟩, .int .i64 e]
theorem loadAn_at {w : World} {g : Nat} {cs : Array Value} {t : TypeId} {fr : Nat × Nat} (hg : w.heap[g]? = some (.cells cs t fr)) (hi : cs.size = 3) : (loadAn ⟨g, 0, none⟩).run Tryz.prog w = .ok (.agg cs) w :=
 run_loadVar_row (P := Tryz.prog) w g t 89 cs fr _ hg Tryz.underlying89 rfl (by rw [info_an, hi])
theorem storeAn_at {w : World} {g : Nat} {cs : Array Value} {t : TypeId} {old : Array Value} (hg : w.heap[g]? = some (.cells old t (0, 0))) (hi : cs.size = 3) (ho : old.size = 3) (h1 : cs.all (·.oneCell') = true) : (storeAn ⟨g, 0, none⟩ (.agg cs)).run Tryz.prog w = .ok () (w.setRow g cs) :=
 run_storeVar_row (P := Tryz.prog) w g t 89 old cs hg (by rw [info_an, hi]) (by rw [ho, hi]) h1
theorem put_an (w : World) (k r : By) (e : Int) : ∃ W, (storeAn ⟨w.heap.size, 0, none⟩ (.agg (anC k r e))).run Tryz.prog (w.alloc (.cells (anC [] [] 0) 89)) = .ok () W ∧ W.heap[w.heap.size]? = some (.cells (anC k r e) 89 (0, 0)) ∧ Below w.heap.size w W := by
 have hz := heap_alloc_new w (.cells (anC [] [] 0) 89)
 exact ⟨_, storeAn_at hz rfl rfl (by simp [Value.oneCell']), setRow_heap _ _ _ _ _ _ hz, below_setRow (box_below0 w (anC [] [] 0) 89) (Nat.le_refl _) _⟩
/-- The block of a row that a call owns. -/
theorem own_block {e : TypeId} {z : Nat} {w : World} {base : Nat} {v : Value} {n : Nat} {xs : List Value} (h : w.ownsRow base e z v n xs) {x : Nat} (hx : v.ownBlock = some x) : ∃ cs, w.heap[x]? = some (.cells cs e (0, 0)) := by
 rcases h.2 with ⟨rfl, _⟩ | ⟨g, cap, cur, rfl, _, hg, _⟩
 · cases hx
 · have : g = x := by simpa [Value.ownBlock] using hx
   subst this; exact ⟨cur, hg⟩
theorem types_apart {w : World} {a b : Nat} {ca cb : Array Value} {ta tb : TypeId} {fa fb : Nat × Nat} (ha : w.heap[a]? = some (.cells ca ta fa)) (hb : w.heap[b]? = some (.cells cb tb fb)) (h : ta ≠ tb) : a ≠ b :=
 ne_block ha hb (fun e => h (by injection e))
theorem map_apart {w : World} {a b : Nat} {ca : Array Value} {ta : TypeId} {fa : Nat × Nat} {es : Array MapEntry} {cl : Nat} (ha : w.heap[a]? = some (.cells ca ta fa)) (hb : w.heap[b]? = some (.map es cl)) : a ≠ b := ne_block ha hb (by simp)
/-- A row of the unit's own lies apart from its struct, its maps, and rows of other kinds. -/
structure Lone (w : World) (k : Uk) (x : Nat) : Prop where
 p : x ≠ k.p
 mb : x ≠ k.mb
 os : ∀ q ∈ k.os, x ∉ q.2.m
theorem UnIn.lone {w : World} {k : Uk} {u : Un} (h : UnIn w k u) {x : Nat} {cs : Array Value} {t : TypeId} (hx : w.heap[x]? = some (.cells cs t (0, 0))) (h1 : t ≠ 121) (h2 : t ≠ 203) (h3 : t ≠ 3) : Lone w k x := by
 obtain ⟨es, cl, hm⟩ := amap_block h.sets
 refine ⟨types_apart hx h.row h1, map_apart hx hm, fun q hq hm => ?_⟩
 have ho := h.owns q hq
 obtain ⟨es2, cl2, hm2⟩ := amap_block ho.keys
 simp only [OwK.m, List.mem_append, List.mem_cons, List.not_mem_nil, or_false] at hm
 rcases hm with (rfl | rfl) | hm
 · exact types_apart hx ho.row h2 rfl
 · exact map_apart hx hm2 rfl
 · obtain ⟨cs', hb⟩ := own_block ho.lens (by simpa using hm)
   exact types_apart hx hb h3 rfl
/-- The reads are another row now. -/
theorem UnIn.setR {w w1 : World} {k : Uk} {u : Un} (h : UnIn w k u) {v' : Value} {l : List Rd} (ho : Only k.rv.ownBlock.toList w w1) (hr : RdRow w1 0 v' l) (hov : ∀ x, v'.ownBlock = some x → k.rv.ownBlock = some x ∨ w.heap.size ≤ x) (hn : l.length ≤ 900000) :
 UnIn (w1.setCell ⟨k.p, 5, none⟩ v') { k with rv := v' } { u with reads := l } ∧ Mv k.m w ({ k with rv := v' } : Uk).m (w1.setCell ⟨k.p, 5, none⟩ v') := by
 have hlt := h.lt
 have lp := hlt k.p (by simp)
 have hL : ∀ x, k.rv.ownBlock = some x → Lone w k x := fun x hx => by
  obtain ⟨cs, hb⟩ := own_block h.reads hx
  exact h.lone hb (by decide) (by decide) (by decide)
 have hC : ∀ x, k.rv.ownBlock = some x → k.cv.ownBlock ≠ some x := fun x hx hc => by
  obtain ⟨cs, hb⟩ := own_block h.reads hx
  obtain ⟨cs2, hb2⟩ := own_block h.chs hc
  exact types_apart hb hb2 (by decide) rfl
 have hnp : k.p ∉ k.rv.ownBlock.toList := fun hx => (hL _ (by simpa using hx)).p rfl
 have hrow := ho.heap h.row hnp
 have hT : Only (k.p :: k.rv.ownBlock.toList) w (w1.setCell ⟨k.p, 5, none⟩ v') := (ho.mono (fun x hx _ => List.mem_cons_of_mem _ hx)).setCell (Or.inl (by simp)) _
 have o1 : Only [k.p] w1 (w1.setCell ⟨k.p, 5, none⟩ v') := (Only.refl _ _).setCell (Or.inl (by simp)) _
 have hT2 : ∀ x, x ∈ k.p :: k.rv.ownBlock.toList → x = k.p ∨ Lone w k x := fun x hx => by
  rcases List.mem_cons.1 hx with e | hx
  · exact Or.inl e
  · exact Or.inr (hL x (by simpa using hx))
 obtain ⟨es, cl, hmb⟩ := amap_block h.sets
 have hpo : ∀ q ∈ k.os, k.p ∉ q.2.m := fun q hq hm => by
  have ho := h.owns q hq
  obtain ⟨es2, cl2, hm2⟩ := amap_block ho.keys
  simp only [OwK.m, List.mem_append, List.mem_cons, List.not_mem_nil, or_false] at hm
  rcases hm with (e | e) | hm
  · have := ho.row; rw [← e] at this; exact types_apart h.row this (by decide) rfl
  · exact map_apart h.row (e ▸ hm2) rfl
  · obtain ⟨cs', hb⟩ := own_block ho.lens (by simpa using hm)
    exact types_apart h.row hb (by decide) rfl
 refine ⟨⟨?_, ?_, ?_, ?_, h.eq, ?_, h.apart, h.num, ⟨h.few.1, hn⟩⟩, ⟨hT.mono (fun x hx _ => ?_), fun x hx => ?_⟩⟩
 · have := cell_row_any w1 k.p 5 _ _ _ v' hrow
   exact this
 · refine h.chs.only hT (fun x hx hm => ?_)
   rcases List.mem_cons.1 hm with rfl | hm
   · obtain ⟨cs, hb⟩ := own_block h.chs hx
     exact types_apart hb h.row (by decide) rfl
   · exact hC x (by simpa using hm) hx
 · refine hr.only o1 (fun x hx hm => ?_)
   rw [List.mem_singleton] at hm
   rcases hov x hx with q | q
   · exact (hL x q).p hm
   · omega
 · refine amap_keep h.sets (hT.block _ (amap_lt h.sets) (fun hm => ?_))
   rcases List.mem_cons.1 hm with e | hm
   · exact map_apart h.row hmb e.symm
   · exact (hL _ (by simpa using hm)).mb rfl
 · intro q hq
   refine (h.owns q hq).only hT (fun x hx hm => ?_)
   rcases hT2 x hm with e | e
   · rw [e] at hx; exact hpo q hq hx
   · exact e.os q hq hx
 · rcases List.mem_cons.1 hx with rfl | hx
   · simp
   · simp at hx ⊢; simp [hx]
 · simp only [Uk.m, List.mem_append, List.mem_cons, List.not_mem_nil, or_false] at hx ⊢
   rcases hx with (((hx | hx) | hx) | hx) | hx
   · exact Or.inl (Or.inl (Or.inl (Or.inl (Or.inl hx))))
   · exact Or.inl (Or.inl (Or.inl (Or.inl (Or.inr hx))))
   · exact Or.inl (Or.inl (Or.inl (Or.inr hx)))
   · have hx : v'.ownBlock = some x := by simpa using hx
     rcases hov x hx with q | q
     · exact Or.inl (Or.inl (Or.inr (by simp [q])))
     · exact Or.inr ⟨q, Nat.lt_of_lt_of_le (own_lt hr hx) o1.size⟩
   · exact Or.inl (Or.inr hx)
section
attribute [local go_sem ↓] loadAn_down storeAn_down
theorem note_w (w : World) (S : List Nat) (p : Nat) (bv lv : Value) (u : Un) (kind id : Int) (k a r : By) (e : Int) (h : UnAt w S p bv lv u) (hf : u.reads.length < 900000) :
 Calls Tryz.prog 49 #[.pointer (some ⟨p, 0, none⟩), .int .i64 kind, .int .i64 id, .string ⟨k.toArray⟩, .agg (anC a r e)] w fun x w' => x = .returned (.tuple #[]) ∧ ∃ S', UnAt w' S' p bv lv (noteU u kind id k a r e) ∧ Mv S w S' w' := by
 obtain ⟨kk, rfl, hkb, hkl, rfl, hk⟩ := h
 have hb := box_below0 w (anC a r e) 89
 have hz := heap_alloc_new w (.cells (anC a r e) 89)
 obtain ⟨W0, hW0⟩ : ∃ W0, W0 = w.alloc (.cells (anC a r e) 89) := ⟨_, rfl⟩
 rw [← hW0] at hb hz
 have HW0 := Lib.hid hW0
 have c2 := cell_at (i := 2) (v := .int .i64 e) hz rfl
 have HK := Lib.hid (hk.below hb)
 have HB := Lib.hid hb
 have HZ := Lib.hid hz
 have HKB := Lib.hid (And.intro hkb hkl)
 have HFEW := Lib.hid hf
 obtain ⟨q, hq⟩ : ∃ q, q = noteU u kind id k a r e := ⟨_, rfl⟩
 rw [← hq]
 unfold noteU at hq
 clear hb hz hk hkb hkl hf hW0
 by_cases he : e = 0 ∨ e = 6
 · rw [if_pos he] at hq
   have HQ := Lib.hid hq
   obtain ⟨va, vc, hv⟩ := RowE.spell encRd HK.out.reads
   have HV := Lib.hid hv
   have d2 : W0.drew.cell? ⟨kk.p, 5, none⟩ = some (.slice va u.reads.length vc) := cell_at (w := W0.drew) (i := 5) HK.out.row (by rw [← hv]; rfl)
   have dl5 := loadAn_at (w := W0.drew) HZ.out rfl
   obtain ⟨V1, hV1⟩ : ∃ V1, V1 = (W0.alloc (.cells (rdE ⟨kind, id, k, a, r, e⟩) 91)).drew := ⟨_, rfl⟩
   have hb1 : Below W0.heap.size W0 V1 := by rw [hV1]; exact (box_below0 W0 (rdE ⟨kind, id, k, a, r, e⟩) 91).drew
   have HG1 := Lib.hid (show V1.heap[W0.heap.size]? = some (.cells (rdE ⟨kind, id, k, a, r, e⟩) 91 (0, 0)) by rw [hV1]; exact heap_alloc_new W0 _)
   have HE1 := Lib.hid hV1
   have HB1x := Lib.hid hb1
   have HRow1 := Lib.hid (show RdRow V1 0 (.slice va u.reads.length vc) u.reads by rw [← hv]; exact HK.out.reads.below hb1)
   have HLC := Lib.hid (show V1.cell? ⟨kk.p, 5, none⟩ = some (.slice va u.reads.length vc) from (hb1.cell (p := ⟨kk.p, 5, none⟩) (block_lt_of_cell d2)).trans d2)
   have HLN := Lib.hid (show u.reads.length ≤ 1000000 by have := HFEW.out; omega)
   have HEnd := Lib.hid (show ∀ (V2 : World) (va' : Option Addr) (vc' : Nat), RdRow V2 0 (.slice va' (u.reads ++ [(⟨kind, id, k, a, r, e⟩ : Rd)]).length vc') (u.reads ++ [⟨kind, id, k, a, r, e⟩]) → V1.grownBy V2 (Value.slice va u.reads.length vc).ownBlock →
    ((Value.slice va' (u.reads ++ [(⟨kind, id, k, a, r, e⟩ : Rd)]).length vc').ownBlock = (Value.slice va u.reads.length vc).ownBlock ∨ (Value.slice va' (u.reads ++ [(⟨kind, id, k, a, r, e⟩ : Rd)]).length vc').ownBlock = some V1.heap.size) →
    V2.heap[kk.p]? = some (.cells #[.int .i64 u.num, kk.bv, kk.lv, kk.cv, .map (some kk.mb), kk.rv] 121 (0, 0)) ∧ V2.frozen? ⟨kk.p, 5, none⟩ = false ∧ V2.cell? ⟨kk.p, 5, none⟩ = some (.slice va u.reads.length vc) ∧
    (∃ S', UnAt (V2.setCell ⟨kk.p, 5, none⟩ (.slice va' (u.reads.length + 1) vc')) S' kk.p bv lv q ∧ Mv kk.m w S' (V2.setCell ⟨kk.p, 5, none⟩ (.slice va' (u.reads.length + 1) vc'))) from fun V2 va' vc' hR2 hg2 how => by
    have hon : Only kk.rv.ownBlock.toList W0 V2 := by rw [HV.out]; exact (Only.of_below HB1x.out).grown hg2 (fun y hy => Or.inl (by simp [hy]))
    have hnp : kk.p ∉ kk.rv.ownBlock.toList := fun hm => by
     obtain ⟨cs, hbk⟩ := own_block HK.out.reads (show kk.rv.ownBlock = some kk.p by simpa using hm)
     exact types_apart hbk HK.out.row (by decide) rfl
    have hp2 := hon.heap HK.out.row hnp
    have hc : V2.cell? ⟨kk.p, 5, none⟩ = some (.slice va u.reads.length vc) := by rw [← HV.out]; exact cell_at (i := 5) hp2 rfl
    refine ⟨hp2, frozen_of_row V2 kk.p 5 _ _ hp2, hc, ?_⟩
    have h3 := HK.out.setR (l := u.reads ++ [⟨kind, id, k, a, r, e⟩]) hon hR2 (fun y hy => by
     rcases how with e | e
     · exact Or.inl (by rw [HV.out, ← e]; exact hy)
     · rw [e] at hy
       obtain rfl : V1.heap.size = y := Option.some.inj hy
       exact Or.inr HB1x.out.size) (by rw [List.length_append]; have := HFEW.out; simp; omega)
    rw [show (u.reads ++ [(⟨kind, id, k, a, r, e⟩ : Rd)]).length = u.reads.length + 1 by simp] at h3
    exact ⟨_, by rw [HQ.out]; exact ⟨{ kk with rv := .slice va' (u.reads.length + 1) vc' }, rfl, HKB.out.1, HKB.out.2, rfl, h3.1⟩, (Mv.of_below HB.out).trans h3.2⟩)
   clear hv hV1 hb1 hq
   rcases he with rfl | rfl
   · go_enter Tryz.func49, Tryz.ntmps49
     go_upto_region 1 with fail
     rw [← HW0.out]
     go_upto_region 2 with fail
     refine wp_region_held_drew (S := fun _ => True) (by kernel_rfl) trivial (fun hHeld => ?_)
     refine tk 0 (.pointer (some ⟨kk.p, 0, none⟩)) 18 ?_
     refine tk 1 (.pointer (some ⟨kk.p, 0, none⟩)) 19 ?_
     refine tk 2 (.pointer (some ⟨kk.p, 0, none⟩)) 20 ?_
     refine tk 3 (.pointer (some ⟨kk.p, 5, none⟩)) 21 ?_
     refine tk 5 (.int .i64 kind) 23 ?_
     refine tk 6 (.int .i64 id) 24 ?_
     refine tk 7 (.string ⟨k.toArray⟩) 25 ?_
     refine rd2 4 8 (fun K hK => ?_) (fun K hK => ?_)
     · skip
       go_simp
       (try go_wp2_with fail)
       refine hK.out _ _ (trivial) (fun hHeld => ?_)
       clear hK K
       try simp only [lay]
       refine rd1 8 fun K hK => ?_
       go_simp
       (try go_wp2_with fail)
       refine hK.out _ _ (trivial) (fun hHeld => ?_)
       clear hK K
       try simp only [lay]
       refine tk 9 (.agg (rdE ⟨kind, id, k, a, r, 0⟩)) 27 ?_
       refine rd1 10 fun K hK => ?_
       go_simp
       rw [← HE1.out]
       (try go_wp2_with fail)
       refine hK.out _ _ (trivial) (fun hHeld => ?_)
       clear hK K
       try simp only [lay]
       refine rd1 11 fun K hK => ?_
       refine step_append_one rfl _ _ rfl encRd 0 (.slice va u.reads.length vc) u.reads ⟨kind, id, k, a, r, 0⟩ rfl HRow1.out W0.heap.size rfl HG1.out rfl HLN.out (Nat.zero_le _) ?_
       rintro v' V2 hrow2 hgr2 how2
       obtain ⟨va', vc', rfl⟩ := RowE.spell encRd hrow2
       obtain ⟨hp2, fz2, cl2, hend⟩ := HEnd.out V2 va' vc' hrow2 hgr2 how2
       have HFIN := Lib.hid hend
       have hln : (u.reads ++ [(⟨kind, id, k, a, r, 0⟩ : Rd)]).length = u.reads.length + 1 := by simp
       clear hrow2 hgr2 how2 hp2 hend
       try rw [hln]
       clear hln
       refine hK.out _ _ trivial (fun hHeld => ?_)
       clear hK K
       try simp only [lay]
       refine tk 12 (.pointer (some ⟨kk.p, 0, none⟩)) 30 ?_
       refine tk 13 (.pointer (some ⟨kk.p, 5, none⟩)) 31 ?_
       refine rd1 14 fun K hK => ?_
       go_simp
       (try go_wp2_with fail)
       refine hK.out _ _ (trivial) (fun hHeld => ?_)
       clear hK K
       try simp only [lay]
       refine wpAnyH_done (by kernel_rfl) ?_ _
       clear fz2 cl2
       go_wp2_with fail
       exact Go.Great.bodyPost_end0 rfl rfl ⟨rfl, HFIN.out⟩
     · skip
       go_simp
       (try go_wp2_with fail)
       refine hK.out _ _ (trivial) (fun hHeld => ?_)
       clear hK K
       try simp only [lay]
       refine tk 9 (.agg (rdE ⟨kind, id, k, a, r, 0⟩)) 27 ?_
       refine rd2 4 10 (fun K hK => ?_) (fun K hK => ?_)
       · skip
         go_simp
         (try go_wp2_with fail)
         refine hK.out _ _ (trivial) (fun hHeld => ?_)
         clear hK K
         try simp only [lay]
         refine rd1 10 fun K hK => ?_
         go_simp
         rw [← HE1.out]
         (try go_wp2_with fail)
         refine hK.out _ _ (trivial) (fun hHeld => ?_)
         clear hK K
         try simp only [lay]
         refine rd1 11 fun K hK => ?_
         refine step_append_one rfl _ _ rfl encRd 0 (.slice va u.reads.length vc) u.reads ⟨kind, id, k, a, r, 0⟩ rfl HRow1.out W0.heap.size rfl HG1.out rfl HLN.out (Nat.zero_le _) ?_
         rintro v' V2 hrow2 hgr2 how2
         obtain ⟨va', vc', rfl⟩ := RowE.spell encRd hrow2
         obtain ⟨hp2, fz2, cl2, hend⟩ := HEnd.out V2 va' vc' hrow2 hgr2 how2
         have HFIN := Lib.hid hend
         have hln : (u.reads ++ [(⟨kind, id, k, a, r, 0⟩ : Rd)]).length = u.reads.length + 1 := by simp
         clear hrow2 hgr2 how2 hp2 hend
         try rw [hln]
         clear hln
         refine hK.out _ _ trivial (fun hHeld => ?_)
         clear hK K
         try simp only [lay]
         refine tk 12 (.pointer (some ⟨kk.p, 0, none⟩)) 30 ?_
         refine tk 13 (.pointer (some ⟨kk.p, 5, none⟩)) 31 ?_
         refine rd1 14 fun K hK => ?_
         go_simp
         (try go_wp2_with fail)
         refine hK.out _ _ (trivial) (fun hHeld => ?_)
         clear hK K
         try simp only [lay]
         refine wpAnyH_done (by kernel_rfl) ?_ _
         clear fz2 cl2
         go_wp2_with fail
         exact Go.Great.bodyPost_end0 rfl rfl ⟨rfl, HFIN.out⟩
       · skip
         go_simp
         rw [← HE1.out]
         (try go_wp2_with fail)
         refine hK.out _ _ (trivial) (fun hHeld => ?_)
         clear hK K
         try simp only [lay]
         have dl : V1.cell? ⟨kk.p, 5, none⟩ = some (.slice va u.reads.length vc) := HLC.out
         refine rd1 4 fun K hK => ?_
         go_simp
         (try go_wp2_with fail)
         refine hK.out _ _ (trivial) (fun hHeld => ?_)
         clear hK K
         try simp only [lay]
         clear dl
         refine rd1 11 fun K hK => ?_
         refine step_append_one rfl _ _ rfl encRd 0 (.slice va u.reads.length vc) u.reads ⟨kind, id, k, a, r, 0⟩ rfl HRow1.out W0.heap.size rfl HG1.out rfl HLN.out (Nat.zero_le _) ?_
         rintro v' V2 hrow2 hgr2 how2
         obtain ⟨va', vc', rfl⟩ := RowE.spell encRd hrow2
         obtain ⟨hp2, fz2, cl2, hend⟩ := HEnd.out V2 va' vc' hrow2 hgr2 how2
         have HFIN := Lib.hid hend
         have hln : (u.reads ++ [(⟨kind, id, k, a, r, 0⟩ : Rd)]).length = u.reads.length + 1 := by simp
         clear hrow2 hgr2 how2 hp2 hend
         try rw [hln]
         clear hln
         refine hK.out _ _ trivial (fun hHeld => ?_)
         clear hK K
         try simp only [lay]
         refine tk 12 (.pointer (some ⟨kk.p, 0, none⟩)) 30 ?_
         refine tk 13 (.pointer (some ⟨kk.p, 5, none⟩)) 31 ?_
         refine rd1 14 fun K hK => ?_
         go_simp
         (try go_wp2_with fail)
         refine hK.out _ _ (trivial) (fun hHeld => ?_)
         clear hK K
         try simp only [lay]
         refine wpAnyH_done (by kernel_rfl) ?_ _
         clear fz2 cl2
         go_wp2_with fail
         exact Go.Great.bodyPost_end0 rfl rfl ⟨rfl, HFIN.out⟩
   · go_enter Tryz.func49, Tryz.ntmps49
     go_upto_region 1 with fail
     rw [← HW0.out]
     go_upto_region 2 with fail
     refine wp_region_held_drew (S := fun _ => True) (by kernel_rfl) trivial (fun hHeld => ?_)
     refine tk 0 (.pointer (some ⟨kk.p, 0, none⟩)) 18 ?_
     refine tk 1 (.pointer (some ⟨kk.p, 0, none⟩)) 19 ?_
     refine tk 2 (.pointer (some ⟨kk.p, 0, none⟩)) 20 ?_
     refine tk 3 (.pointer (some ⟨kk.p, 5, none⟩)) 21 ?_
     refine tk 5 (.int .i64 kind) 23 ?_
     refine tk 6 (.int .i64 id) 24 ?_
     refine tk 7 (.string ⟨k.toArray⟩) 25 ?_
     refine rd2 4 8 (fun K hK => ?_) (fun K hK => ?_)
     · skip
       go_simp
       (try go_wp2_with fail)
       refine hK.out _ _ (trivial) (fun hHeld => ?_)
       clear hK K
       try simp only [lay]
       refine rd1 8 fun K hK => ?_
       go_simp
       (try go_wp2_with fail)
       refine hK.out _ _ (trivial) (fun hHeld => ?_)
       clear hK K
       try simp only [lay]
       refine tk 9 (.agg (rdE ⟨kind, id, k, a, r, 6⟩)) 27 ?_
       refine rd1 10 fun K hK => ?_
       go_simp
       rw [← HE1.out]
       (try go_wp2_with fail)
       refine hK.out _ _ (trivial) (fun hHeld => ?_)
       clear hK K
       try simp only [lay]
       refine rd1 11 fun K hK => ?_
       refine step_append_one rfl _ _ rfl encRd 0 (.slice va u.reads.length vc) u.reads ⟨kind, id, k, a, r, 6⟩ rfl HRow1.out W0.heap.size rfl HG1.out rfl HLN.out (Nat.zero_le _) ?_
       rintro v' V2 hrow2 hgr2 how2
       obtain ⟨va', vc', rfl⟩ := RowE.spell encRd hrow2
       obtain ⟨hp2, fz2, cl2, hend⟩ := HEnd.out V2 va' vc' hrow2 hgr2 how2
       have HFIN := Lib.hid hend
       have hln : (u.reads ++ [(⟨kind, id, k, a, r, 6⟩ : Rd)]).length = u.reads.length + 1 := by simp
       clear hrow2 hgr2 how2 hp2 hend
       try rw [hln]
       clear hln
       refine hK.out _ _ trivial (fun hHeld => ?_)
       clear hK K
       try simp only [lay]
       refine tk 12 (.pointer (some ⟨kk.p, 0, none⟩)) 30 ?_
       refine tk 13 (.pointer (some ⟨kk.p, 5, none⟩)) 31 ?_
       refine rd1 14 fun K hK => ?_
       go_simp
       (try go_wp2_with fail)
       refine hK.out _ _ (trivial) (fun hHeld => ?_)
       clear hK K
       try simp only [lay]
       refine wpAnyH_done (by kernel_rfl) ?_ _
       clear fz2 cl2
       go_wp2_with fail
       exact Go.Great.bodyPost_end0 rfl rfl ⟨rfl, HFIN.out⟩
     · skip
       go_simp
       (try go_wp2_with fail)
       refine hK.out _ _ (trivial) (fun hHeld => ?_)
       clear hK K
       try simp only [lay]
       refine tk 9 (.agg (rdE ⟨kind, id, k, a, r, 6⟩)) 27 ?_
       refine rd2 4 10 (fun K hK => ?_) (fun K hK => ?_)
       · skip
         go_simp
         (try go_wp2_with fail)
         refine hK.out _ _ (trivial) (fun hHeld => ?_)
         clear hK K
         try simp only [lay]
         refine rd1 10 fun K hK => ?_
         go_simp
         rw [← HE1.out]
         (try go_wp2_with fail)
         refine hK.out _ _ (trivial) (fun hHeld => ?_)
         clear hK K
         try simp only [lay]
         refine rd1 11 fun K hK => ?_
         refine step_append_one rfl _ _ rfl encRd 0 (.slice va u.reads.length vc) u.reads ⟨kind, id, k, a, r, 6⟩ rfl HRow1.out W0.heap.size rfl HG1.out rfl HLN.out (Nat.zero_le _) ?_
         rintro v' V2 hrow2 hgr2 how2
         obtain ⟨va', vc', rfl⟩ := RowE.spell encRd hrow2
         obtain ⟨hp2, fz2, cl2, hend⟩ := HEnd.out V2 va' vc' hrow2 hgr2 how2
         have HFIN := Lib.hid hend
         have hln : (u.reads ++ [(⟨kind, id, k, a, r, 6⟩ : Rd)]).length = u.reads.length + 1 := by simp
         clear hrow2 hgr2 how2 hp2 hend
         try rw [hln]
         clear hln
         refine hK.out _ _ trivial (fun hHeld => ?_)
         clear hK K
         try simp only [lay]
         refine tk 12 (.pointer (some ⟨kk.p, 0, none⟩)) 30 ?_
         refine tk 13 (.pointer (some ⟨kk.p, 5, none⟩)) 31 ?_
         refine rd1 14 fun K hK => ?_
         go_simp
         (try go_wp2_with fail)
         refine hK.out _ _ (trivial) (fun hHeld => ?_)
         clear hK K
         try simp only [lay]
         refine wpAnyH_done (by kernel_rfl) ?_ _
         clear fz2 cl2
         go_wp2_with fail
         exact Go.Great.bodyPost_end0 rfl rfl ⟨rfl, HFIN.out⟩
       · skip
         go_simp
         rw [← HE1.out]
         (try go_wp2_with fail)
         refine hK.out _ _ (trivial) (fun hHeld => ?_)
         clear hK K
         try simp only [lay]
         have dl : V1.cell? ⟨kk.p, 5, none⟩ = some (.slice va u.reads.length vc) := HLC.out
         refine rd1 4 fun K hK => ?_
         go_simp
         (try go_wp2_with fail)
         refine hK.out _ _ (trivial) (fun hHeld => ?_)
         clear hK K
         try simp only [lay]
         clear dl
         refine rd1 11 fun K hK => ?_
         refine step_append_one rfl _ _ rfl encRd 0 (.slice va u.reads.length vc) u.reads ⟨kind, id, k, a, r, 6⟩ rfl HRow1.out W0.heap.size rfl HG1.out rfl HLN.out (Nat.zero_le _) ?_
         rintro v' V2 hrow2 hgr2 how2
         obtain ⟨va', vc', rfl⟩ := RowE.spell encRd hrow2
         obtain ⟨hp2, fz2, cl2, hend⟩ := HEnd.out V2 va' vc' hrow2 hgr2 how2
         have HFIN := Lib.hid hend
         have hln : (u.reads ++ [(⟨kind, id, k, a, r, 6⟩ : Rd)]).length = u.reads.length + 1 := by simp
         clear hrow2 hgr2 how2 hp2 hend
         try rw [hln]
         clear hln
         refine hK.out _ _ trivial (fun hHeld => ?_)
         clear hK K
         try simp only [lay]
         refine tk 12 (.pointer (some ⟨kk.p, 0, none⟩)) 30 ?_
         refine tk 13 (.pointer (some ⟨kk.p, 5, none⟩)) 31 ?_
         refine rd1 14 fun K hK => ?_
         go_simp
         (try go_wp2_with fail)
         refine hK.out _ _ (trivial) (fun hHeld => ?_)
         clear hK K
         try simp only [lay]
         refine wpAnyH_done (by kernel_rfl) ?_ _
         clear fz2 cl2
         go_wp2_with fail
         exact Go.Great.bodyPost_end0 rfl rfl ⟨rfl, HFIN.out⟩
 · rw [if_neg he] at hq
   have HQ := Lib.hid hq
   have g1 : ((e : Int) == 0) = false := by simp; exact fun h => he (Or.inl h)
   have g2 : ((e : Int) == 6) = false := by simp; exact fun h => he (Or.inr h)
   clear hq he
   go_enter Tryz.func49, Tryz.ntmps49
   go_upto_region 1 with fail
   rw [← HW0.out]
   go_wp2_with fail
   exact Go.Great.bodyPost_end0 rfl rfl ⟨rfl, _, by rw [HQ.out]; exact ⟨kk, rfl, HKB.out.1, HKB.out.2, rfl, HK.out⟩, Mv.of_below HB.out⟩
end
end

section
set_option maxRecDepth 100000
set_option maxHeartbeats 8000000
set_option linter.unusedSimpArgs false
set_option linter.unusedVariables false
open Go.RowKit Go.Sort
theorem Mv.left {S S' T : List Nat} {w w' : World} (h : Mv S w S' w') : Mv (S ++ T) w (S' ++ T) w' :=
 ⟨h.only.mono (fun x hx _ => List.mem_append_left _ hx), fun x hx => by
   rcases List.mem_append.1 hx with hx | hx
   · exact (h.new x hx).imp (fun q => List.mem_append_left _ q) id
   · exact Or.inl (List.mem_append_right _ hx)⟩
theorem Mv.right {S S' T : List Nat} {w w' : World} (h : Mv S w S' w') : Mv (T ++ S) w (T ++ S') w' :=
 ⟨h.only.mono (fun x hx _ => List.mem_append_right _ hx), fun x hx => by
   rcases List.mem_append.1 hx with hx | hx
   · exact Or.inl (List.mem_append_left _ hx)
   · exact (h.new x hx).imp (fun q => List.mem_append_right _ q) id⟩
/-- A unit and its manager, apart. -/
structure UM (w : World) (S M : List Nat) (p m : Nat) (bv : Value) (u : Un) (L : Ls) : Prop where
 un : UnAt w S p bv (lvOf m) u
 mg : MgAt w M m L
 dis : ∀ x ∈ S, x ∉ M
theorem UM.below {w w' : World} {S M : List Nat} {p m : Nat} {bv : Value} {u : Un} {L : Ls} (h : UM w S M p m bv u L) (hb : Below w.heap.size w w') : UM w' S M p m bv u L := ⟨h.un.below hb, h.mg.below hb, h.dis⟩
/-- The manager has moved on. -/
theorem UM.mg' {w w' : World} {S M M' : List Nat} {p m : Nat} {bv : Value} {u : Un} {L L' : Ls} (h : UM w S M p m bv u L) (hm : MgAt w' M' m L') (hv : Mv M w M' w') : UM w' S M' p m bv u L' :=
 ⟨h.un.only hv.only h.dis, hm, hv.apart (fun x hx => ⟨h.dis x hx, h.un.lt x hx⟩)⟩
/-- The unit has moved on. -/
theorem UM.un' {w w' : World} {S S' M : List Nat} {p m : Nat} {bv : Value} {u u' : Un} {L : Ls} (h : UM w S M p m bv u L) (hu : UnAt w' S' p bv (lvOf m) u') (hv : Mv S w S' w') : UM w' S' M p m bv u' L :=
 ⟨hu, h.mg.only hv.only (fun x hx hm => h.dis x hm hx), fun x hx hm => hv.apart (T := M) (fun y hy => ⟨fun hs => h.dis y hs hy, h.mg.lt y hy⟩) x hm hx⟩
section
attribute [local go_sem ↓] loadSn_down storeSn_down loadAn_down storeAn_down
theorem ugetN_w (w : World) (S M : List Nat) (p m : Nat) (b : Bs) (u : Un) (L : Ls) (id : Int) (k : By) (h : UM w S M p m b.val u L) (hb : BsAt w M b) (hi : I64 id) (hk : k.length ≤ 1000000) (hc : CanAsk u L id (pointR k) false) (hf : u.reads.length < 900000) :
 Calls Tryz.prog 15 #[.pointer (some ⟨p, 0, none⟩), .int .i64 id, .string ⟨k.toArray⟩] w fun x w' => x = .returned (.tuple (getT (getN b.pairs u L id k).1)) ∧ ∃ S' M', UM w' S' M' p m b.val (getN b.pairs u L id k).2.1 (getN b.pairs u L id k).2.2 ∧ Mv (S ++ M) w (S' ++ M') w' := by
 have HCH := Lib.hid (changed_w w S p b.val (lvOf m) u id k h.un hi hk)
 obtain ⟨R, hR⟩ : ∃ R, R = getN b.pairs u L id k := ⟨_, rfl⟩
 rw [← hR]
 unfold getN at hR
 have HG := Lib.hid (fun (W : World) (hW : Below w.heap.size w W) => uget_w W S M p m b u L id k (h.un.below hW) (h.mg.below hW) h.dis (hb.below hW) hi hk hc)
 obtain ⟨q, hq⟩ : ∃ q, q = getU b.pairs u L id k := ⟨_, rfl⟩
 rw [← hq] at hR HG
 obtain ⟨⟨s, e⟩, L1⟩ := q
 obtain ⟨c, hcc⟩ : ∃ c, c = chgU u id k := ⟨_, rfl⟩
 rw [← hcc] at hR HCH
 simp only [getT] at hR HG
 have HUM := Lib.hid h
 have HNO := Lib.hid (fun (W : World) (S' : List Nat) (hW : UnAt W S' p b.val (lvOf m) u) (a r : By) (e : Int) => note_w W S' p b.val (lvOf m) u 0 id k a r e hW hf)
 clear hq hcc h hb hi hk hc hf
 obtain ⟨t, ht⟩ : ∃ t, t = c.isSome := ⟨_, rfl⟩
 obtain ⟨sn, hsn⟩ : ∃ sn, chgR c = #[.agg (snC sn), .bool t] := by
  cases c with
  | none => exact ⟨none, by rw [ht]; rfl⟩
  | some x => exact ⟨x, by rw [ht]; rfl⟩
 rw [hsn] at HCH
 clear hsn
 have HPUT := Lib.hid (fun W => put_sn W sn)
 generalize snC sn = sc at HCH HPUT
 have HCN := Lib.hid (show c = none ↔ t = false by rw [ht]; cases c <;> simp)
 clear ht
 by_cases he : e = 0
 · subst he
   simp only [if_true] at hR
   by_cases h1 : k.length < 1
   · have g1 : ¬ (1 : Int) ≤ (k.length : Int) := by omega
     have HR := Lib.hid (show R = ((s, 0), u, L1) by rw [hR, if_neg (by omega)])
     clear hR
     clear h1
     go_enter Tryz.func15, Tryz.ntmps15
     go_wp2_with fail
     refine HCH.out.mono ?_
     rintro x W1 ⟨rfl, hb1⟩
     obtain ⟨W2, hst, hz2, hb2⟩ := HPUT.out W1
     have HB2 := Lib.hid (hb1.trans (hb2.mono hb1.size))
     clear hz2 hb2 hb1
     go_wp2_with fail
     refine (HG.out W2 HB2.out).mono ?_
     rintro x W3 ⟨rfl, M3, hm3, hv3⟩
     have HU3 := Lib.hid ((HUM.out.below HB2.out).mg' hm3 hv3)
     have HV3 := Lib.hid ((Mv.of_below HB2.out).trans hv3)
     obtain ⟨W4, hst4, hz4, hb4⟩ := put_an W3 k s 0
     have HU4 := Lib.hid (HU3.out.below hb4)
     have HV4 := Lib.hid (HV3.out.step hb4)
     have HB4 := Lib.hid hb4
     have la := loadAn_at hz4 rfl
     clear hz4 hb4 hm3 hv3 hst
     go_wp2_with fail
     go_ret2
     exact ⟨by rw [HR.out]; rfl, S, M3, by rw [HR.out]; exact HU4.out, HV4.out.right (T := S)⟩
   · by_cases h2 : 32 < k.length
     · have g1 : (1 : Int) ≤ (k.length : Int) := by omega
       have g2 : ¬ (k.length : Int) ≤ 32 := by omega
       have HR := Lib.hid (show R = ((s, 0), u, L1) by rw [hR, if_neg (by omega)])
       clear hR
       clear h1 h2
       go_enter Tryz.func15, Tryz.ntmps15
       go_wp2_with fail
       refine HCH.out.mono ?_
       rintro x W1 ⟨rfl, hb1⟩
       obtain ⟨W2, hst, hz2, hb2⟩ := HPUT.out W1
       have HB2 := Lib.hid (hb1.trans (hb2.mono hb1.size))
       clear hz2 hb2 hb1
       go_wp2_with fail
       refine (HG.out W2 HB2.out).mono ?_
       rintro x W3 ⟨rfl, M3, hm3, hv3⟩
       have HU3 := Lib.hid ((HUM.out.below HB2.out).mg' hm3 hv3)
       have HV3 := Lib.hid ((Mv.of_below HB2.out).trans hv3)
       obtain ⟨W4, hst4, hz4, hb4⟩ := put_an W3 k s 0
       have HU4 := Lib.hid (HU3.out.below hb4)
       have HV4 := Lib.hid (HV3.out.step hb4)
       have HB4 := Lib.hid hb4
       have la := loadAn_at hz4 rfl
       clear hz4 hb4 hm3 hv3 hst
       go_wp2_with fail
       go_ret2
       exact ⟨by rw [HR.out]; rfl, S, M3, by rw [HR.out]; exact HU4.out, HV4.out.right (T := S)⟩
     · have g1 : (1 : Int) ≤ (k.length : Int) := by omega
       have g2 : (k.length : Int) ≤ 32 := by omega
       cases t with
       | false =>
         have HR := Lib.hid (show R = ((s, 0), noteU u 0 id k k s 0, L1) by rw [hR, if_pos ⟨by omega, HCN.out.2 rfl⟩])
         clear hR
         clear h1 h2
         go_enter Tryz.func15, Tryz.ntmps15
         go_wp2_with fail
         refine HCH.out.mono ?_
         rintro x W1 ⟨rfl, hb1⟩
         obtain ⟨W2, hst, hz2, hb2⟩ := HPUT.out W1
         have HB2 := Lib.hid (hb1.trans (hb2.mono hb1.size))
         clear hz2 hb2 hb1
         go_wp2_with fail
         refine (HG.out W2 HB2.out).mono ?_
         rintro x W3 ⟨rfl, M3, hm3, hv3⟩
         have HU3 := Lib.hid ((HUM.out.below HB2.out).mg' hm3 hv3)
         have HV3 := Lib.hid ((Mv.of_below HB2.out).trans hv3)
         obtain ⟨W4, hst4, hz4, hb4⟩ := put_an W3 k s 0
         have HU4 := Lib.hid (HU3.out.below hb4)
         have HV4 := Lib.hid (HV3.out.step hb4)
         have HB4 := Lib.hid hb4
         have la := loadAn_at hz4 rfl
         clear hz4 hb4 hm3 hv3 hst
         go_wp2_with fail
         refine (HNO.out _ S HU4.out.un k s 0).mono ?_
         rintro x W8 ⟨rfl, S8, hu8, hv8⟩
         have HU8 := Lib.hid (HU4.out.un' hu8 hv8)
         have HV8 := Lib.hid ((HV4.out.right (T := S)).trans (hv8.left (T := M3)))
         clear hu8 hv8
         go_wp2_with fail
         go_ret2
         exact ⟨by rw [HR.out]; rfl, S8, M3, by rw [HR.out]; exact HU8.out, HV8.out⟩
       | true =>
         have HR := Lib.hid (show R = ((s, 0), u, L1) by rw [hR, if_neg (by rintro ⟨_, hcn⟩; exact absurd (HCN.out.1 hcn) (by simp))])
         clear hR
         clear h1 h2
         go_enter Tryz.func15, Tryz.ntmps15
         go_wp2_with fail
         refine HCH.out.mono ?_
         rintro x W1 ⟨rfl, hb1⟩
         obtain ⟨W2, hst, hz2, hb2⟩ := HPUT.out W1
         have HB2 := Lib.hid (hb1.trans (hb2.mono hb1.size))
         clear hz2 hb2 hb1
         go_wp2_with fail
         refine (HG.out W2 HB2.out).mono ?_
         rintro x W3 ⟨rfl, M3, hm3, hv3⟩
         have HU3 := Lib.hid ((HUM.out.below HB2.out).mg' hm3 hv3)
         have HV3 := Lib.hid ((Mv.of_below HB2.out).trans hv3)
         obtain ⟨W4, hst4, hz4, hb4⟩ := put_an W3 k s 0
         have HU4 := Lib.hid (HU3.out.below hb4)
         have HV4 := Lib.hid (HV3.out.step hb4)
         have HB4 := Lib.hid hb4
         have la := loadAn_at hz4 rfl
         clear hz4 hb4 hm3 hv3 hst
         go_wp2_with fail
         go_ret2
         exact ⟨by rw [HR.out]; rfl, S, M3, by rw [HR.out]; exact HU4.out, HV4.out.right (T := S)⟩
 · have hne : ((e : Int) != 0) = true := by simpa using he
   simp only [if_neg he] at hR
   clear he
   by_cases h1 : k.length < 1
   · have g1 : ¬ (1 : Int) ≤ (k.length : Int) := by omega
     have HR := Lib.hid (show R = ((s, e), u, L1) by rw [hR, if_neg (by omega)])
     clear hR
     clear h1
     go_enter Tryz.func15, Tryz.ntmps15
     go_wp2_with fail
     refine HCH.out.mono ?_
     rintro x W1 ⟨rfl, hb1⟩
     obtain ⟨W2, hst, hz2, hb2⟩ := HPUT.out W1
     have HB2 := Lib.hid (hb1.trans (hb2.mono hb1.size))
     clear hz2 hb2 hb1
     go_wp2_with fail
     refine (HG.out W2 HB2.out).mono ?_
     rintro x W3 ⟨rfl, M3, hm3, hv3⟩
     have HU3 := Lib.hid ((HUM.out.below HB2.out).mg' hm3 hv3)
     have HV3 := Lib.hid ((Mv.of_below HB2.out).trans hv3)
     obtain ⟨W4, hst4, hz4, hb4⟩ := put_an W3 k s e
     have HU4 := Lib.hid (HU3.out.below hb4)
     have HV4 := Lib.hid (HV3.out.step hb4)
     have HB4 := Lib.hid hb4
     have z0 := cell_at (i := 0) (v := .string ⟨k.toArray⟩) hz4 rfl
     have f0 := free_at hz4 0
     have hz5 := cell_row_any W4 W3.heap.size 0 _ _ _ (.string ⟨#[]⟩) hz4
     have z1 : (W4.setCell ⟨W3.heap.size, 0, none⟩ (.string ⟨#[]⟩)).cell? ⟨W3.heap.size, 1, none⟩ = some (.string ⟨s.toArray⟩) := cell_at (i := 1) hz5 rfl
     have z1' := cell_at (i := 1) (v := .string ⟨s.toArray⟩) hz4 rfl
     have f1' := free_at hz4 1
     have f1 : (W4.setCell ⟨W3.heap.size, 0, none⟩ (.string ⟨#[]⟩)).frozen? ⟨W3.heap.size, 1, none⟩ = false := free_at hz5 1
     have hz6 := cell_row_any (W4.setCell ⟨W3.heap.size, 0, none⟩ (.string ⟨#[]⟩)) W3.heap.size 1 _ _ _ (.string ⟨#[]⟩) hz5
     have la := loadAn_at (cs := anC [] [] e) hz6 rfl
     have hb6 : Below W3.heap.size W3 ((W4.setCell ⟨W3.heap.size, 0, none⟩ (.string ⟨#[]⟩)).setCell ⟨W3.heap.size, 1, none⟩ (.string ⟨#[]⟩)) := by
      have o5 : Only [W3.heap.size] W4 (W4.setCell ⟨W3.heap.size, 0, none⟩ (.string ⟨#[]⟩)) := (Only.refl _ _).setCell (Or.inl (by simp)) _
      have o6 : Only [W3.heap.size] (W4.setCell ⟨W3.heap.size, 0, none⟩ (.string ⟨#[]⟩)) ((W4.setCell ⟨W3.heap.size, 0, none⟩ (.string ⟨#[]⟩)).setCell ⟨W3.heap.size, 1, none⟩ (.string ⟨#[]⟩)) := (Only.refl _ _).setCell (Or.inl (by simp)) _
      exact hb4.trans ((o5.trans o6).below hb4.size (fun x hx => by rw [List.mem_singleton] at hx; omega))
     have HU6 := Lib.hid (HU3.out.below hb6)
     have HV6 := Lib.hid (HV3.out.step hb6)
     clear hz4 hb4 hm3 hv3 hst hz5 hz6 hb6
     go_wp2_with fail
     go_ret2
     exact ⟨by rw [HR.out]; rfl, S, M3, by rw [HR.out]; exact HU6.out, HV6.out.right (T := S)⟩
   · by_cases h2 : 32 < k.length
     · have g1 : (1 : Int) ≤ (k.length : Int) := by omega
       have g2 : ¬ (k.length : Int) ≤ 32 := by omega
       have HR := Lib.hid (show R = ((s, e), u, L1) by rw [hR, if_neg (by omega)])
       clear hR
       clear h1 h2
       go_enter Tryz.func15, Tryz.ntmps15
       go_wp2_with fail
       refine HCH.out.mono ?_
       rintro x W1 ⟨rfl, hb1⟩
       obtain ⟨W2, hst, hz2, hb2⟩ := HPUT.out W1
       have HB2 := Lib.hid (hb1.trans (hb2.mono hb1.size))
       clear hz2 hb2 hb1
       go_wp2_with fail
       refine (HG.out W2 HB2.out).mono ?_
       rintro x W3 ⟨rfl, M3, hm3, hv3⟩
       have HU3 := Lib.hid ((HUM.out.below HB2.out).mg' hm3 hv3)
       have HV3 := Lib.hid ((Mv.of_below HB2.out).trans hv3)
       obtain ⟨W4, hst4, hz4, hb4⟩ := put_an W3 k s e
       have HU4 := Lib.hid (HU3.out.below hb4)
       have HV4 := Lib.hid (HV3.out.step hb4)
       have HB4 := Lib.hid hb4
       have z0 := cell_at (i := 0) (v := .string ⟨k.toArray⟩) hz4 rfl
       have f0 := free_at hz4 0
       have hz5 := cell_row_any W4 W3.heap.size 0 _ _ _ (.string ⟨#[]⟩) hz4
       have z1 : (W4.setCell ⟨W3.heap.size, 0, none⟩ (.string ⟨#[]⟩)).cell? ⟨W3.heap.size, 1, none⟩ = some (.string ⟨s.toArray⟩) := cell_at (i := 1) hz5 rfl
       have z1' := cell_at (i := 1) (v := .string ⟨s.toArray⟩) hz4 rfl
       have f1' := free_at hz4 1
       have f1 : (W4.setCell ⟨W3.heap.size, 0, none⟩ (.string ⟨#[]⟩)).frozen? ⟨W3.heap.size, 1, none⟩ = false := free_at hz5 1
       have hz6 := cell_row_any (W4.setCell ⟨W3.heap.size, 0, none⟩ (.string ⟨#[]⟩)) W3.heap.size 1 _ _ _ (.string ⟨#[]⟩) hz5
       have la := loadAn_at (cs := anC [] [] e) hz6 rfl
       have hb6 : Below W3.heap.size W3 ((W4.setCell ⟨W3.heap.size, 0, none⟩ (.string ⟨#[]⟩)).setCell ⟨W3.heap.size, 1, none⟩ (.string ⟨#[]⟩)) := by
        have o5 : Only [W3.heap.size] W4 (W4.setCell ⟨W3.heap.size, 0, none⟩ (.string ⟨#[]⟩)) := (Only.refl _ _).setCell (Or.inl (by simp)) _
        have o6 : Only [W3.heap.size] (W4.setCell ⟨W3.heap.size, 0, none⟩ (.string ⟨#[]⟩)) ((W4.setCell ⟨W3.heap.size, 0, none⟩ (.string ⟨#[]⟩)).setCell ⟨W3.heap.size, 1, none⟩ (.string ⟨#[]⟩)) := (Only.refl _ _).setCell (Or.inl (by simp)) _
        exact hb4.trans ((o5.trans o6).below hb4.size (fun x hx => by rw [List.mem_singleton] at hx; omega))
       have HU6 := Lib.hid (HU3.out.below hb6)
       have HV6 := Lib.hid (HV3.out.step hb6)
       clear hz4 hb4 hm3 hv3 hst hz5 hz6 hb6
       go_wp2_with fail
       go_ret2
       exact ⟨by rw [HR.out]; rfl, S, M3, by rw [HR.out]; exact HU6.out, HV6.out.right (T := S)⟩
     · have g1 : (1 : Int) ≤ (k.length : Int) := by omega
       have g2 : (k.length : Int) ≤ 32 := by omega
       cases t with
       | false =>
         have HR := Lib.hid (show R = ((s, e), noteU u 0 id k [] [] e, L1) by rw [hR, if_pos ⟨by omega, HCN.out.2 rfl⟩])
         clear hR
         clear h1 h2
         go_enter Tryz.func15, Tryz.ntmps15
         go_wp2_with fail
         refine HCH.out.mono ?_
         rintro x W1 ⟨rfl, hb1⟩
         obtain ⟨W2, hst, hz2, hb2⟩ := HPUT.out W1
         have HB2 := Lib.hid (hb1.trans (hb2.mono hb1.size))
         clear hz2 hb2 hb1
         go_wp2_with fail
         refine (HG.out W2 HB2.out).mono ?_
         rintro x W3 ⟨rfl, M3, hm3, hv3⟩
         have HU3 := Lib.hid ((HUM.out.below HB2.out).mg' hm3 hv3)
         have HV3 := Lib.hid ((Mv.of_below HB2.out).trans hv3)
         obtain ⟨W4, hst4, hz4, hb4⟩ := put_an W3 k s e
         have HU4 := Lib.hid (HU3.out.below hb4)
         have HV4 := Lib.hid (HV3.out.step hb4)
         have HB4 := Lib.hid hb4
         have z0 := cell_at (i := 0) (v := .string ⟨k.toArray⟩) hz4 rfl
         have f0 := free_at hz4 0
         have hz5 := cell_row_any W4 W3.heap.size 0 _ _ _ (.string ⟨#[]⟩) hz4
         have z1 : (W4.setCell ⟨W3.heap.size, 0, none⟩ (.string ⟨#[]⟩)).cell? ⟨W3.heap.size, 1, none⟩ = some (.string ⟨s.toArray⟩) := cell_at (i := 1) hz5 rfl
         have z1' := cell_at (i := 1) (v := .string ⟨s.toArray⟩) hz4 rfl
         have f1' := free_at hz4 1
         have f1 : (W4.setCell ⟨W3.heap.size, 0, none⟩ (.string ⟨#[]⟩)).frozen? ⟨W3.heap.size, 1, none⟩ = false := free_at hz5 1
         have hz6 := cell_row_any (W4.setCell ⟨W3.heap.size, 0, none⟩ (.string ⟨#[]⟩)) W3.heap.size 1 _ _ _ (.string ⟨#[]⟩) hz5
         have la := loadAn_at (cs := anC [] [] e) hz6 rfl
         have hb6 : Below W3.heap.size W3 ((W4.setCell ⟨W3.heap.size, 0, none⟩ (.string ⟨#[]⟩)).setCell ⟨W3.heap.size, 1, none⟩ (.string ⟨#[]⟩)) := by
          have o5 : Only [W3.heap.size] W4 (W4.setCell ⟨W3.heap.size, 0, none⟩ (.string ⟨#[]⟩)) := (Only.refl _ _).setCell (Or.inl (by simp)) _
          have o6 : Only [W3.heap.size] (W4.setCell ⟨W3.heap.size, 0, none⟩ (.string ⟨#[]⟩)) ((W4.setCell ⟨W3.heap.size, 0, none⟩ (.string ⟨#[]⟩)).setCell ⟨W3.heap.size, 1, none⟩ (.string ⟨#[]⟩)) := (Only.refl _ _).setCell (Or.inl (by simp)) _
          exact hb4.trans ((o5.trans o6).below hb4.size (fun x hx => by rw [List.mem_singleton] at hx; omega))
         have HU6 := Lib.hid (HU3.out.below hb6)
         have HV6 := Lib.hid (HV3.out.step hb6)
         clear hz4 hb4 hm3 hv3 hst hz5 hz6 hb6
         go_wp2_with fail
         refine (HNO.out _ S HU6.out.un [] [] e).mono ?_
         rintro x W8 ⟨rfl, S8, hu8, hv8⟩
         have HU8 := Lib.hid (HU6.out.un' hu8 hv8)
         have HV8 := Lib.hid ((HV6.out.right (T := S)).trans (hv8.left (T := M3)))
         clear hu8 hv8
         go_wp2_with fail
         go_ret2
         exact ⟨by rw [HR.out]; rfl, S8, M3, by rw [HR.out]; exact HU8.out, HV8.out⟩
       | true =>
         have HR := Lib.hid (show R = ((s, e), u, L1) by rw [hR, if_neg (by rintro ⟨_, hcn⟩; exact absurd (HCN.out.1 hcn) (by simp))])
         clear hR
         clear h1 h2
         go_enter Tryz.func15, Tryz.ntmps15
         go_wp2_with fail
         refine HCH.out.mono ?_
         rintro x W1 ⟨rfl, hb1⟩
         obtain ⟨W2, hst, hz2, hb2⟩ := HPUT.out W1
         have HB2 := Lib.hid (hb1.trans (hb2.mono hb1.size))
         clear hz2 hb2 hb1
         go_wp2_with fail
         refine (HG.out W2 HB2.out).mono ?_
         rintro x W3 ⟨rfl, M3, hm3, hv3⟩
         have HU3 := Lib.hid ((HUM.out.below HB2.out).mg' hm3 hv3)
         have HV3 := Lib.hid ((Mv.of_below HB2.out).trans hv3)
         obtain ⟨W4, hst4, hz4, hb4⟩ := put_an W3 k s e
         have HU4 := Lib.hid (HU3.out.below hb4)
         have HV4 := Lib.hid (HV3.out.step hb4)
         have HB4 := Lib.hid hb4
         have z0 := cell_at (i := 0) (v := .string ⟨k.toArray⟩) hz4 rfl
         have f0 := free_at hz4 0
         have hz5 := cell_row_any W4 W3.heap.size 0 _ _ _ (.string ⟨#[]⟩) hz4
         have z1 : (W4.setCell ⟨W3.heap.size, 0, none⟩ (.string ⟨#[]⟩)).cell? ⟨W3.heap.size, 1, none⟩ = some (.string ⟨s.toArray⟩) := cell_at (i := 1) hz5 rfl
         have z1' := cell_at (i := 1) (v := .string ⟨s.toArray⟩) hz4 rfl
         have f1' := free_at hz4 1
         have f1 : (W4.setCell ⟨W3.heap.size, 0, none⟩ (.string ⟨#[]⟩)).frozen? ⟨W3.heap.size, 1, none⟩ = false := free_at hz5 1
         have hz6 := cell_row_any (W4.setCell ⟨W3.heap.size, 0, none⟩ (.string ⟨#[]⟩)) W3.heap.size 1 _ _ _ (.string ⟨#[]⟩) hz5
         have la := loadAn_at (cs := anC [] [] e) hz6 rfl
         have hb6 : Below W3.heap.size W3 ((W4.setCell ⟨W3.heap.size, 0, none⟩ (.string ⟨#[]⟩)).setCell ⟨W3.heap.size, 1, none⟩ (.string ⟨#[]⟩)) := by
          have o5 : Only [W3.heap.size] W4 (W4.setCell ⟨W3.heap.size, 0, none⟩ (.string ⟨#[]⟩)) := (Only.refl _ _).setCell (Or.inl (by simp)) _
          have o6 : Only [W3.heap.size] (W4.setCell ⟨W3.heap.size, 0, none⟩ (.string ⟨#[]⟩)) ((W4.setCell ⟨W3.heap.size, 0, none⟩ (.string ⟨#[]⟩)).setCell ⟨W3.heap.size, 1, none⟩ (.string ⟨#[]⟩)) := (Only.refl _ _).setCell (Or.inl (by simp)) _
          exact hb4.trans ((o5.trans o6).below hb4.size (fun x hx => by rw [List.mem_singleton] at hx; omega))
         have HU6 := Lib.hid (HU3.out.below hb6)
         have HV6 := Lib.hid (HV3.out.step hb6)
         clear hz4 hb4 hm3 hv3 hst hz5 hz6 hb6
         go_wp2_with fail
         go_ret2
         exact ⟨by rw [HR.out]; rfl, S, M3, by rw [HR.out]; exact HU6.out, HV6.out.right (T := S)⟩
end
end

end Go.Proofs.YtcefkngblddpoaaGreatDoor

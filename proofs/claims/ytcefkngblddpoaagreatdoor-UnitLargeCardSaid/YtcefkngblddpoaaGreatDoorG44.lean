/-
  Walk: the alternate key of a record that there is, or is not. Condition: the record is not too long.
  Walk: the search for another record with an alternate key. Condition: nobody waits for a lock; texts are not too long.
  Walk: whether alternate indexes are those of a base. Condition: the descriptions lie in memory.
  What Plan gathers, in memory. No walk, no condition.
  Walk: what a change of a base does to one alternate index. Condition: what Plan gathers lies in memory, nobody waits for a lock, texts are not too long.
  Walk: what a change of a base does to its alternate indexes. Condition: what Plan gathers lies in memory, nobody waits for a lock, texts are not too long.
  Walks: whether a change is one of a base; the changes that empty alternate indexes. Conditions: the description is valid; what is gathered lies in memory.
  Walk: a change of a base with those of its alternate indexes. Condition: unit, manager and descriptions lie in memory, nobody waits for a lock, texts are not too long.
  Walk: a change of a base with those of its alternate indexes (Plan). Condition: unit, manager and descriptions lie in memory, nobody waits for a lock, texts are not too long.
-/
import Derived.Test.YtcefkngblddpoaaGreatDoorG43
namespace Go.Proofs.YtcefkngblddpoaaGreatDoor

section
set_option linter.unusedSimpArgs false
set_option linter.unusedVariables false
open Go.RowKit Go.Sort
def loadSd (p : Addr) : Sem Value := loadVar 283 p
theorem loadSd_down (p : Addr) : loadVar 283 p = loadSd p := rfl
def storeSd (p : Addr) (v : Value) : Sem Unit := storeVar 283 p v
theorem storeSd_down (p : Addr) (v : Value) : storeVar 283 p v = storeSd p v := rfl
section
attribute [local go_sem ↓] loadDs_down storeDs_down loadSd_down storeSd_down
end
end

section
set_option linter.unusedSimpArgs false
set_option linter.unusedVariables false
open Go.RowKit Go.Sort
theorem lock_free {u : Un} {L : Ls} {id : Int} {r : Rg} {x : Bool} (hq : L.queue = []) (he : (lockU u L id r x).1 ≠ 15) : (lockU u L id r x).2.queue = [] ∧ (lockU u L id r x).2.held.length ≤ L.held.length + 1 := by
 unfold lockU reqP at he ⊢
 split
 · exact ⟨hq, by simp⟩
 · split
   · exact ⟨hq, by simp⟩
   · split
     · rename_i h1 h2 h3
       rw [if_neg h1, if_neg h2, if_pos h3] at he
       exact absurd rfl he
     · exact ⟨hq, by simp⟩
theorem lock_err (u : Un) (L : Ls) (id : Int) (r : Rg) (x : Bool) : (lockU u L id r x).1 = 0 ∨ (lockU u L id r x).1 = 1 ∨ (lockU u L id r x).1 = 15 := by
 unfold lockU reqP
 split
 · exact Or.inr (Or.inl rfl)
 · split
   · exact Or.inl rfl
   · split
     · exact Or.inr (Or.inr rfl)
     · exact Or.inl rfl
theorem next_free {C : Int → List Pr} {u : Un} {L : Ls} {id : Int} {k : By} (hq : L.queue = []) (he : (nextU C u L id k).1.2.2 ≠ 15) : (nextU C u L id k).2.queue = [] ∧ (nextU C u L id k).2.held.length ≤ L.held.length + 1 := by
 unfold nextU at he ⊢
 by_cases h1 : 32 < k.length
 · rw [if_pos h1]; exact ⟨hq, by simp⟩
 · rw [if_neg h1] at he ⊢
   obtain ⟨y, hy⟩ : ∃ y, y = lockU u L id (rangeN k (nxtU C u id k)) false := ⟨_, rfl⟩
   have hf := fun h15 => lock_free (u := u) (L := L) (id := id) (r := rangeN k (nxtU C u id k)) (x := false) hq h15
   rw [← hy] at hf he ⊢
   obtain ⟨e, L'⟩ := y
   dsimp only at he hf ⊢
   by_cases h2 : e ≠ 0
   · rw [if_pos h2] at he ⊢; exact hf he
   · rw [if_neg h2]; exact hf (by omega)
theorem get_free {C : Int → List Pr} {u : Un} {L : Ls} {id : Int} {k : By} (hq : L.queue = []) (he : (getU C u L id k).1.2 ≠ 15) : (getU C u L id k).2.queue = [] ∧ (getU C u L id k).2.held.length ≤ L.held.length + 1 := by
 unfold getU at he ⊢
 by_cases h1 : k.length < 1 ∨ 32 < k.length
 · rw [if_pos h1]; exact ⟨hq, by simp⟩
 · rw [if_neg h1] at he ⊢
   obtain ⟨y, hy⟩ : ∃ y, y = lockU u L id (pointR k) false := ⟨_, rfl⟩
   have hf := fun h15 => lock_free (u := u) (L := L) (id := id) (r := pointR k) (x := false) hq h15
   rw [← hy] at hf he ⊢
   obtain ⟨e, L'⟩ := y
   dsimp only at he hf ⊢
   by_cases h2 : e ≠ 0
   · rw [if_pos h2] at he ⊢; exact hf he
   · rw [if_neg h2]
     have := hf (by omega)
     split <;> exact this
theorem dup1_100 {k b at' : By} {q : By × By × Int} (h : dup1 k b at' q = 100) (hne : q.2.2 ≠ 100) : q.2.2 = 0 ∧ Op.bytesLess at' q.1 = true ∧ Lib.hasPrefix q.1 k = true ∧ q.1 = k ++ b := by
 unfold dup1 at h
 split at h
 · exact absurd h (by omega)
 · split at h
   · exact absurd h hne
   · split at h
     · exact absurd h (by omega)
     · rename_i h1 h2 h3
       split at h
       · exact absurd h (by omega)
       · rename_i h4
         simp only [not_or, Bool.not_eq_false] at h3
         exact ⟨by omega, h3.1, h3.2, Decidable.not_not.1 h4⟩
theorem next_err (C : Int → List Pr) (u : Un) (L : Ls) (id : Int) (k : By) : (nextU C u L id k).1.2.2 = 0 ∨ (nextU C u L id k).1.2.2 = 1 ∨ (nextU C u L id k).1.2.2 = 6 ∨ (nextU C u L id k).1.2.2 = 15 := by
 unfold nextU
 by_cases h1 : 32 < k.length
 · rw [if_pos h1]; exact Or.inr (Or.inl rfl)
 · rw [if_neg h1]
   have he := lock_err u L id (rangeN k (nxtU C u id k)) false
   obtain ⟨y, hy⟩ : ∃ y, y = lockU u L id (rangeN k (nxtU C u id k)) false := ⟨_, rfl⟩
   rw [← hy] at he ⊢
   obtain ⟨e, L'⟩ := y
   dsimp only at he ⊢
   by_cases h2 : e ≠ 0
   · rw [if_pos h2]; rcases he with h | h | h
     · exact absurd h h2
     · exact Or.inr (Or.inl h)
     · exact Or.inr (Or.inr (Or.inr h))
   · rw [if_neg h2]
     cases nxtU C u id k with
     | none => exact Or.inr (Or.inr (Or.inl rfl))
     | some p => exact Or.inl rfl
theorem dup_free {C : Int → List Pr} {u : Un} {L : Ls} {id : Int} {k b : By} (hq : L.queue = []) (he : (dupU C u L id k b).1 ≠ 15) : (dupU C u L id k b).2.queue = [] ∧ (dupU C u L id k b).2.held.length ≤ L.held.length + 2 := by
 have dne : ∀ {at' : By} {q : By × By × Int}, dup1 k b at' q ≠ 15 → q.2.2 ≠ 15 := by
  intro at' q h h15
  apply h
  unfold dup1
  rw [h15]; rfl
 unfold dupU at he ⊢
 split
 · rename_i h1
   rw [if_pos h1] at he
   have := next_free (C := C) (u := u) (id := id) (k := k) hq (dne he)
   exact ⟨this.1, Nat.le_succ_of_le this.2⟩
 · rename_i h1
   rw [if_neg h1] at he
   have h2 := dup1_100 (Decidable.not_not.1 h1) (by rcases next_err C u L id k with h | h | h | h <;> rw [h] <;> decide)
   have f1 := next_free (C := C) (u := u) (id := id) (k := k) hq (by rw [h2.1]; decide)
   have f2 := next_free (C := C) (u := u) (id := id) (k := k ++ b) f1.1 (dne he)
   exact ⟨f2.1, Nat.le_trans f2.2 (by have := f1.2; omega)⟩
theorem canAsk_of {u : Un} {L : Ls} {id : Int} {r : Rg} {x : Bool} (hq : L.queue = []) (hf : L.held.length ≤ 890000) : CanAsk u L id r x := ⟨by rw [hq]; simp, Or.inl hq, by omega, by rw [hq]; simp⟩
structure DupI (w0 : World) (S M : List Nat) (p m : Nat) (b : Bs) (u : Un) (a : Co) (g : Nat) (Li : Ls) (Mi : List Nat) (W : World) : Prop where
 um : UM W S Mi p m b.val u Li
 bs : BsAt W Mi b
 mv : Mv M w0 Mi W
 box : W.heap[g]? = some (.cells (dsE a) 45 (0, 0))
theorem DupI.step {w0 W W' : World} {S M Mi Mi' : List Nat} {p m : Nat} {b : Bs} {u : Un} {a : Co} {g : Nat} {Li Li' : Ls} (h : DupI w0 S M p m b u a g Li Mi W) (hm : MgAt W' Mi' m Li') (hv : Mv Mi W Mi' W') (hg : g ∉ M) (hg0 : g < w0.heap.size) : DupI w0 S M p m b u a g Li' Mi' W' :=
 ⟨h.um.mg' hm hv, h.bs.mv hv, h.mv.trans hv, hv.only.heap h.box (h.mv.apart (T := [g]) (fun x hx => by rw [List.mem_singleton] at hx; subst hx; exact ⟨hg, hg0⟩) g (by simp))⟩
section
attribute [local go_sem ↓] loadDs_down storeDs_down
end
end

section
set_option maxRecDepth 100000
set_option linter.unusedSimpArgs false
set_option linter.unusedVariables false
open Go.RowKit Go.Sort
/-- Descriptions lie in memory, one behind the other. -/
def DsL (w : World) (a : Option Addr) (l : List Co) : Prop := l ≠ [] → ∃ b off, a = some ⟨b, off, none⟩ ∧ ∀ i (h : i < l.length) j v, (dsE l[i])[j]? = some v → w.cell? ⟨b, off + i * 21 + j, none⟩ = some v
theorem DsL.of_row {w : World} {base : Nat} {v : Value} {l : List Co} (h : DsRow w base v l) : ∃ a cap, v = .slice a l.length cap ∧ l.length ≤ cap ∧ cap ≤ maxLen ∧ DsL w a l ∧ (l ≠ [] → ∃ g, a = some ⟨g, 0, none⟩ ∧ base ≤ g ∧ g < w.heap.size) := by
 obtain ⟨a, cap, hv, h1, h2, h3⟩ := h.cellsW encDs
 refine ⟨a, cap, hv, h1, h2, fun hne => ?_, fun hne => ?_⟩
 · obtain ⟨g, ha, _, _, _, hc⟩ := h3 hne
   exact ⟨g, 0, ha, fun i hi j v hv => by have := hc i hi j v hv; rwa [Nat.zero_add]⟩
 · obtain ⟨g, ha, _, hg, hl, _⟩ := h3 hne
   exact ⟨g, ha, hg, hl⟩
theorem DsL.lt {w : World} {a : Option Addr} {l : List Co} (h : DsL w a l) {b off : Nat} (ha : a = some ⟨b, off, none⟩) (hne : l ≠ []) : b < w.heap.size := by
 obtain ⟨b', off', e, hc⟩ := h hne
 rw [ha] at e; injection e with e; injection e with e1 e2 _
 have hl : 0 < l.length := List.length_pos_iff.2 hne
 have := block_lt_of_cell (hc 0 hl 0 (.int .i64 l[0].z.id) rfl)
 rw [e1]; exact this
theorem DsL.only {w w' : World} {T : List Nat} {a : Option Addr} {l : List Co} (h : DsL w a l) (ho : Only T w w') (hT : ∀ p, a = some p → l ≠ [] → p.block ∉ T) : DsL w' a l := fun hne => by
 obtain ⟨b, off, ha, hc⟩ := h hne
 exact ⟨b, off, ha, fun i hi j v hv => (ho.cell (p := ⟨b, off + i * 21 + j, none⟩) (block_lt_of_cell (hc i hi j v hv)) (show b ∉ T from hT ⟨b, off, none⟩ ha hne)).trans (hc i hi j v hv)⟩
theorem DsL.below {w w' : World} {a : Option Addr} {l : List Co} (h : DsL w a l) (hb : Below w.heap.size w w') : DsL w' a l := h.only (T := []) (Only.of_below hb) (fun _ _ _ hm => by cases hm)
theorem DsL.load {w : World} {b off : Nat} {l : List Co} (h : DsL w (some ⟨b, off, none⟩) l) {j : Nat} (hj : j < l.length) : (loadDs ⟨b, off + j * 21, none⟩).run Tryz.prog w = .ok (.agg (dsE l[j])) w := by
 obtain ⟨b', off', e, hc⟩ := h (by intro e; rw [e] at hj; simp at hj)
 injection e with e; injection e with e1 e2 _
 refine run_loadVar_mid (P := Tryz.prog) w b (off + j * 21) 45 (dsE l[j]).toList _ (fun i v hi => ?_) Tryz.underlying45 rfl (by rw [info_ds]; rfl)
 rw [e1, e2]
 exact hc j hj i v (by simpa using hi)
theorem put_ds (w : World) (x : Co) : ∃ W, (storeDs ⟨w.heap.size, 0, none⟩ (.agg (dsE x))).run Tryz.prog (w.alloc (.cells dsZ 45)) = .ok () W ∧ W.heap[w.heap.size]? = some (.cells (dsE x) 45 (0, 0)) ∧ Below w.heap.size w W := by
 have hz := heap_alloc_new w (.cells dsZ 45)
 exact ⟨_, storeDs_at (z := x.z) (org := x.org) (fmt := x.fmt) (len := x.len) (blk := x.blk) hz rfl, setRow_heap _ _ _ _ _ _ hz, below_setRow (box_below0 w dsZ 45) (Nat.le_refl _) _⟩
section
attribute [local go_sem ↓] loadDs_down storeDs_down
end
end

section
set_option linter.unusedSimpArgs false
set_option linter.unusedVariables false
open Go.RowKit Go.Sort
/-- Where what Plan gathers lies: the cells of the record that is there, whether it is, the change, the changes, the puts, the reader. -/
structure Pk where
 bo : Nat
 bt : Nat
 bc : Nat
 br : Nat
 bO : Nat
 bP : Nat
 vO : Value
 vP : Value
 lo : Nat
abbrev Pk.m (k : Pk) : List Nat := [k.bO, k.bP] ++ k.vO.ownBlock.toList ++ k.vP.ownBlock.toList
abbrev Pk.fx (k : Pk) : List Nat := [k.bo, k.bt, k.bc, k.br]
structure PgIn (w : World) (k : Pk) (g : Pg) : Prop where
 cO : w.heap[k.bO]? = some (.cells #[k.vO] 68 (0, 0))
 cP : w.heap[k.bP]? = some (.cells #[k.vP] 68 (0, 0))
 rO : ChRow w 0 k.vO g.out
 rP : ChRow w 0 k.vP g.puts
 ne : k.bO ≠ k.bP ∧ (∀ x, k.vO.ownBlock = some x → x ≠ k.bO ∧ x ≠ k.bP ∧ k.vP.ownBlock ≠ some x) ∧ ∀ x, k.vP.ownBlock = some x → x ≠ k.bO ∧ x ≠ k.bP
theorem PgIn.lt {w : World} {k : Pk} {g : Pg} (h : PgIn w k g) : ∀ x ∈ k.m, x < w.heap.size := by
 intro x hx
 simp only [Pk.m, List.mem_append, List.mem_cons, List.not_mem_nil, or_false] at hx
 rcases hx with ((rfl | rfl) | hx) | hx
 · exact lt_of_block h.cO
 · exact lt_of_block h.cP
 · exact own_lt h.rO (by simpa using hx)
 · exact own_lt h.rP (by simpa using hx)
theorem PgIn.only {w w' : World} {T : List Nat} {k : Pk} {g : Pg} (h : PgIn w k g) (ho : Only T w w') (hT : ∀ x ∈ k.m, x ∉ T) : PgIn w' k g :=
 ⟨ho.heap h.cO (hT _ (by simp)), ho.heap h.cP (hT _ (by simp)), h.rO.only ho (fun x hx => hT x (by simp [hx])), h.rP.only ho (fun x hx => hT x (by simp [hx])), h.ne⟩
theorem PgIn.below {w w' : World} {k : Pk} {g : Pg} (h : PgIn w k g) (hb : Below w.heap.size w w') : PgIn w' k g := h.only (T := []) (Only.of_below hb) (fun _ _ hm => by cases hm)
theorem PgIn.L {w : World} {k : Pk} {g : Pg} (h : PgIn w k g) (L : Ls) : PgIn w k { g with L := L } := ⟨h.cO, h.cP, h.rO, h.rP, h.ne⟩
structure Pk.Like (k k' : Pk) : Prop where
 bo : k'.bo = k.bo
 bt : k'.bt = k.bt
 bc : k'.bc = k.bc
 br : k'.br = k.br
 bO : k'.bO = k.bO
 bP : k'.bP = k.bP
 lo : k'.lo = k.lo
theorem Pk.Like.refl (k : Pk) : k.Like k := ⟨rfl, rfl, rfl, rfl, rfl, rfl, rfl⟩
theorem Pk.Like.trans {a b c : Pk} (h : a.Like b) (g : b.Like c) : a.Like c := ⟨g.bo.trans h.bo, g.bt.trans h.bt, g.bc.trans h.bc, g.br.trans h.br, g.bO.trans h.bO, g.bP.trans h.bP, g.lo.trans h.lo⟩
/-- All that Plan's closures look at. -/
structure PlIn (w : World) (S M : List Nat) (p m : Nat) (b : Bs) (u : Un) (k : Pk) (c : Ch) (old : By) (th : Bool) (g : Pg) : Prop where
 um : UM w S M p m b.val u g.L
 bs : BsAt w (k.m ++ M) b
 pg : PgIn w k g
 co : w.heap[k.bo]? = some (.cells #[.string ⟨old.toArray⟩] 9 (0, 0))
 ct : w.heap[k.bt]? = some (.cells #[.bool th] 4 (0, 0))
 cc : w.heap[k.bc]? = some (.cells c.cs 36 (0, 0))
 cr : w.heap[k.br]? = some (.cells #[qvOf p] 279 (0, 0))
 ap : ∀ x ∈ k.m, x ∉ S ∧ x ∉ M
 fx : ∀ x ∈ k.fx, x ∉ k.m ∧ x ∉ M
 low : ∀ x ∈ k.m, k.lo ≤ x
section
variable {w w' : World} {S M M' : List Nat} {p m : Nat} {b : Bs} {u : Un} {k k' : Pk} {c : Ch} {old : By} {th : Bool} {g g' : Pg} {L' : Ls}
theorem PlIn.fxlt (h : PlIn w S M p m b u k c old th g) : ∀ x ∈ k.fx, x < w.heap.size := by
 intro x hx
 simp only [Pk.fx, List.mem_cons, List.not_mem_nil, or_false] at hx
 rcases hx with rfl | rfl | rfl | rfl
 · exact lt_of_block h.co
 · exact lt_of_block h.ct
 · exact lt_of_block h.cc
 · exact lt_of_block h.cr
theorem PlIn.below (h : PlIn w S M p m b u k c old th g) (hb : Below w.heap.size w w') : PlIn w' S M p m b u k c old th g :=
 ⟨h.um.below hb, h.bs.below hb, h.pg.below hb, heap_below hb (lt_of_block h.co) h.co, heap_below hb (lt_of_block h.ct) h.ct, heap_below hb (lt_of_block h.cc) h.cc, heap_below hb (lt_of_block h.cr) h.cr, h.ap, h.fx, h.low⟩
theorem PlIn.lock (h : PlIn w S M p m b u k c old th g) (hm : MgAt w' M' m L') (hv : Mv M w M' w') : PlIn w' S M' p m b u k c old th { g with L := L' } ∧ Mv (k.m ++ M) w (k.m ++ M') w' := by
 have hX : Mv (k.m ++ M) w (k.m ++ M') w' := hv.right
 have fm := fun x (hx : x ∈ k.fx) => (h.fx x hx).2
 refine ⟨⟨h.um.mg' hm hv, h.bs.mv hX, (h.pg.only hv.only (fun x hx => (h.ap x hx).2)).L L', hv.only.heap h.co (fm _ (by simp)), hv.only.heap h.ct (fm _ (by simp)), hv.only.heap h.cc (fm _ (by simp)), hv.only.heap h.cr (fm _ (by simp)), fun x hx => ⟨(h.ap x hx).1, ?_⟩, fun x hx => ⟨(h.fx x hx).1, ?_⟩, h.low⟩, hX⟩
 · exact hv.apart (T := k.m) (fun y hy => ⟨(h.ap y hy).2, h.pg.lt y hy⟩) x hx
 · exact hv.apart (T := k.fx) (fun y hy => ⟨fm y hy, h.fxlt y hy⟩) x hx
end
end

section
set_option linter.unusedSimpArgs false
set_option linter.unusedVariables false
open Go.RowKit Go.Sort
def PlR (R : Int × Pg) (S M : List Nat) (p m : Nat) (b : Bs) (u : Un) (k : Pk) (c : Ch) (old : By) (th : Bool) (w : World) (e : Ending) (w' : World) : Prop :=
 e = .returned (.int .i64 R.1) ∧ ∃ k' M', k.Like k' ∧ PlIn w' S M' p m b u k' c old th R.2 ∧ Mv (k.m ++ M) w (k'.m ++ M') w'
section
attribute [local go_sem ↓] loadDs_down storeDs_down loadCh_down storeCh_down loadSd_down storeSd_down
end
end

section
set_option linter.unusedSimpArgs false
set_option linter.unusedVariables false
open Go.RowKit Go.Sort
theorem altU_free {C : Int → List Pr} {u : Un} {c : Ch} {old : By} {th : Bool} {a : Co} {g : Pg} (hq : g.L.queue = []) (he : (altU C u c old th a g).1 ≠ 15) :
 (altU C u c old th a g).2.L.queue = [] ∧ (altU C u c old th a g).2.L.held.length ≤ g.L.held.length + 2 ∧ (altU C u c old th a g).2.out.length ≤ g.out.length + 1 ∧ (altU C u c old th a g).2.puts.length ≤ g.puts.length + 1 := by
 unfold altU at he ⊢
 obtain ⟨s1, hs1⟩ : ∃ s1, s1 = sideP a old th := ⟨_, rfl⟩
 obtain ⟨s2, hs2⟩ : ∃ s2, s2 = sideP a c.dat (decide (c.kind ≠ 1)) := ⟨_, rfl⟩
 rw [← hs1, ← hs2] at he ⊢
 by_cases h1 : s1 = s2
 · rw [if_pos h1]; exact ⟨hq, by simp, by simp, by simp⟩
 · rw [if_neg h1] at he ⊢
   cases s1 with
   | none =>
     cases s2 with
     | none => exact ⟨hq, by simp, by simp, by simp⟩
     | some k2 =>
       dsimp only at he ⊢
       by_cases hu : a.z.uniq = true
       · rw [if_pos hu] at he ⊢
         have := dup_free (C := C) (u := u) (id := a.z.id) (k := k2) (b := c.key) hq he
         exact ⟨this.1, this.2, by simp, by simp⟩
       · rw [if_neg hu]; exact ⟨hq, by simp, by simp, by simp⟩
   | some k1 =>
     cases s2 with
     | none => exact ⟨hq, by simp, by simp, by simp⟩
     | some k2 =>
       dsimp only at he ⊢
       by_cases hu : a.z.uniq = true
       · rw [if_pos hu] at he ⊢
         have := dup_free (C := C) (u := u) (id := a.z.id) (k := k2) (b := c.key) hq he
         exact ⟨this.1, this.2, by simp, by simp⟩
       · rw [if_neg hu]; exact ⟨hq, by simp, by simp, by simp⟩
/-- What Plan$3 captures. -/
abbrev fn3 (k : Pk) : Value := .func (Fn.func 183) #[] #[.pointer (some ⟨k.bo, 0, none⟩), .pointer (some ⟨k.bt, 0, none⟩), .pointer (some ⟨k.bc, 0, none⟩), .pointer (some ⟨k.bO, 0, none⟩), .pointer (some ⟨k.bP, 0, none⟩), .pointer (some ⟨k.br, 0, none⟩)]
/-- A data set is read well: its keys rise, and are not too long. -/
def RdOk (b : Bs) (id : Int) : Prop := Rise (b.pairs id) ∧ (∀ q ∈ b.pairs id, q.1.length ≤ 1000000) ∧ I64 id
section
attribute [local go_sem ↓] loadDs_down storeDs_down
end
end

section
set_option linter.unusedSimpArgs false
set_option linter.unusedVariables false
open Go.RowKit Go.Sort
theorem keyOk_of {z : Rest} {fmt len blk : Int} (hv : kvalP z 3 fmt len blk = true) : KeyOk z len z.kat.toNat z.klen.toNat len.toNat := by
 obtain ⟨ka, kl, ln, hk⟩ := key_ok hv
 have h1 := hk.at_; have h2 := hk.kl_; have h3 := hk.ln_
 have e1 : z.kat.toNat = ka := by omega
 have e2 : z.klen.toNat = kl := by omega
 have e3 : len.toNat = ln := by omega
 rw [e1, e2, e3]; exact hk
/-- A frame is told without the blocks that are new. -/
theorem Mv.back {w W w' : World} {K M K' M' : List Nat} (hb : Below w.heap.size w W) (h : Mv (K ++ M) W (K' ++ M') w') (hK : ∀ x ∈ K, w.heap.size ≤ x) (hM : ∀ x ∈ M', x < w'.heap.size) : Mv M w M' w' := by
 refine ⟨?_, fun x hx => ?_⟩
 · have h1 : Only (K ++ M) w w' := (Only.of_below hb).then h.only (fun i hi => Or.inl hi)
   refine h1.mono (fun x hx hl => ?_)
   rcases List.mem_append.1 hx with q | q
   · have := hK x q; omega
   · exact q
 · rcases h.new x (List.mem_append_right _ hx) with q | ⟨q1, q2⟩
   · rcases List.mem_append.1 q with q | q
     · exact Or.inr ⟨hK x q, hM x hx⟩
     · exact Or.inl q
   · exact Or.inr ⟨Nat.le_trans hb.size q1, q2⟩
theorem chrow_one {w : World} {g base : Nat} {c : Ch} (hg : w.heap[g]? = some (.cells c.cs 36 (0, 0))) (hb : base ≤ g) : ChRow w base (.slice (some ⟨g, 0, none⟩) 1 1) [c] :=
 ⟨by simp [flatE], Or.inr ⟨g, 1, c.cs, rfl, hb, hg, Nat.le_refl _, by simp [maxLen], by simp [chC], by simp [flatE, chC]⟩⟩
/-- What Plan$2 gathers: a cell, and the row that it holds. -/
structure OutIn (w : World) (bO : Nat) (vO : Value) (l : List Ch) : Prop where
 cO : w.heap[bO]? = some (.cells #[vO] 68 (0, 0))
 rO : ChRow w 0 vO l
 ne : ∀ x, vO.ownBlock = some x → x ≠ bO
abbrev outM (bO : Nat) (vO : Value) : List Nat := bO :: vO.ownBlock.toList
theorem OutIn.below {w w' : World} {bO : Nat} {vO : Value} {l : List Ch} (h : OutIn w bO vO l) (hb : Below w.heap.size w w') : OutIn w' bO vO l :=
 ⟨heap_below hb (lt_of_block h.cO) h.cO, h.rO.below hb, h.ne⟩
theorem OutIn.lt {w : World} {bO : Nat} {vO : Value} {l : List Ch} (h : OutIn w bO vO l) : ∀ x ∈ outM bO vO, x < w.heap.size := by
 intro x hx
 rcases List.mem_cons.1 hx with rfl | hx
 · exact lt_of_block h.cO
 · exact own_lt h.rO (by simpa using hx)
section
attribute [local go_sem ↓] loadDs_down storeDs_down
end
end

section
set_option linter.unusedSimpArgs false
set_option linter.unusedVariables false
open Go.RowKit Go.Sort
theorem run_append_many2 {α : Type} {P : Program} {enc : α → Array Value} {t e : TypeId} {z : Nat} (E : Enc P enc t e z) (w : World) (base : Nat) (ty : TypeId) (v : Value) (l m : List α) (a : Option Addr) (cap : Nat) (hown : RowE enc e z w base v l) (hm : NewsE enc w a cap m) (hlen : l.length + m.length ≤ 1000000) (hbase : base ≤ w.heap.size) :
 ∃ v' w', (Builtin.append_ #[t, t] ty #[v, .slice a m.length cap]).run P w = .ok v' w' ∧ RowE enc e z w' base v' (l ++ m) ∧ w.grownBy w' v.ownBlock ∧ (v'.ownBlock = v.ownBlock ∨ v'.ownBlock = some w.heap.size) := by
 obtain ⟨i, zv, hi, hz, hs, hby, hzs, h0⟩ := E.hi
 rcases hm with ⟨p, rfl, hc⟩ | ⟨rfl, rfl, rfl⟩
 · obtain ⟨v', w', h1, h2, h3, _, h5⟩ := run_append_own_at (P := P) (w := w) base t ty e i zv z i.bytes E.ht hi hz hs rfl hzs h0 v l.length (flatE enc l) hown p m.length cap (flatE enc m) (flatE_len E m) hc (fun u hu => by
    unfold flatE at hu
    obtain ⟨x, _, hx⟩ := List.mem_flatMap.1 hu
    exact E.one x u hx) (by simp only [maxLen]; omega) (by
    have : (l.length + m.length) * i.bytes ≤ 1000000 * 100 := Nat.mul_le_mul hlen hby
    omega) hbase
   refine ⟨v', w', h1, ?_, h3, h5⟩
   show w'.ownsRow base e z v' (l ++ m).length (flatE enc (l ++ m))
   rw [List.length_append, flatE_app]
   exact h2
 · refine ⟨v, w, run_append_owned_none (P := P) w base t ty e i z E.ht hi v l.length (flatE enc l) hown, by rw [List.append_nil]; exact hown, ⟨rfl, rfl, rfl, Nat.le_refl _, fun _ _ _ => rfl⟩, Or.inl rfl⟩
theorem wpList_append_many2 {α : Type} {P : Program} {enc : α → Array Value} {t e : TypeId} {z : Nat} {ops : Array Oper} {rest : List Oper} {o : Oper} {a : Act} {Q : Exit → Act → World → Prop} {w : World} (hgd : o.guard = none) (s x : Operand) (ho : o.op = .call { callee := .builtin .append, args := #[s, x], argTypes := #[t, t] }) (E : Enc P enc t e z)
 (base : Nat) (v : Value) (l m : List α) (ad : Option Addr) (cap : Nat) (hs : a.eval s = v) (hown : RowE enc e z w base v l) (hx : a.eval x = .slice ad m.length cap) (hm : NewsE enc w ad cap m) (hlen : l.length + m.length ≤ 1000000) (hbase : base ≤ w.heap.size)
 (h : ∀ v' w', RowE enc e z w' base v' (l ++ m) → w.grownBy w' v.ownBlock → (v'.ownBlock = v.ownBlock ∨ v'.ownBlock = some w.heap.size) → wpList P ops Q rest (a.put o.dst v') w') : wpList P ops Q (o :: rest) a w := by
 refine wpList_plain hgd fun K hK => ?_
 obtain ⟨v', w', hr, h2, h3, h4⟩ := run_append_many2 E w base o.type v l m ad cap hown hm hlen hbase
 unfold Oper.wp execOp
 simp only [ho, resolve, invoke, builtin, Sem.run_bind, Sem.run_pure, Result.andThen_ok, List.map_toArray, List.map_cons, List.map_nil, hs, hx, hr]
 exact hK _ _ (h v' w' h2 h3 h4)
/-- The boxes of Plan's arguments. -/
structure PBox (n p : Nat) (x : Co) (pa : Option Addr) (ln cap : Nat) (c : Ch) (W : World) : Prop where
 r : W.heap[n]? = some (.cells #[qvOf p] 279 (0, 0))
 x : W.heap[n + 1]? = some (.cells (dsE x) 45 (0, 0))
 a : W.heap[n + 2]? = some (.cells #[.slice pa ln cap] 61 (0, 0))
 c : W.heap[n + 3]? = some (.cells c.cs 36 (0, 0))
theorem PBox.only {n p : Nat} {x : Co} {pa : Option Addr} {ln cap : Nat} {c : Ch} {T : List Nat} {W W' : World} (h : PBox n p x pa ln cap c W) (ho : Only T W W') (hT : ∀ y ∈ T, y < n ∨ n + 4 ≤ y) : PBox n p x pa ln cap c W' :=
 ⟨ho.heap h.r (fun hm => by have := hT _ hm; omega), ho.heap h.x (fun hm => by have := hT _ hm; omega), ho.heap h.a (fun hm => by have := hT _ hm; omega), ho.heap h.c (fun hm => by have := hT _ hm; omega)⟩
theorem PBox.below {n p : Nat} {x : Co} {pa : Option Addr} {ln cap : Nat} {c : Ch} {W W' : World} (h : PBox n p x pa ln cap c W) (hb : Below W.heap.size W W') : PBox n p x pa ln cap c W' := h.only (T := []) (Only.of_below hb) (fun _ hm => by cases hm)
theorem pbox_make (w : World) (p : Nat) (x : Co) (pa : Option Addr) (ln cap : Nat) (c : Ch) : ∃ W, W = (((w.alloc (.cells #[qvOf p] 279)).alloc (.cells (dsE x) 45)).alloc (.cells #[.slice pa ln cap] 61)).alloc (.cells c.cs 36) ∧ PBox w.heap.size p x pa ln cap c W ∧ Below w.heap.size w W ∧ W.heap.size = w.heap.size + 4 := by
 obtain ⟨w1, h1⟩ : ∃ X, X = w.alloc (.cells #[qvOf p] 279) := ⟨_, rfl⟩
 obtain ⟨w2, h2⟩ : ∃ X, X = w1.alloc (.cells (dsE x) 45) := ⟨_, rfl⟩
 obtain ⟨w3, h3⟩ : ∃ X, X = w2.alloc (.cells #[.slice pa ln cap] 61) := ⟨_, rfl⟩
 have s1 : w1.heap.size = w.heap.size + 1 := by rw [h1]; exact World.size_alloc _ _
 have s2 : w2.heap.size = w.heap.size + 2 := by rw [h2, World.size_alloc, s1]
 have s3 : w3.heap.size = w.heap.size + 3 := by rw [h3, World.size_alloc, s2]
 have a1 : w1.heap[w.heap.size]? = some (.cells #[qvOf p] 279 (0, 0)) := by rw [h1]; exact heap_alloc_new w _
 have a2 : w2.heap[w.heap.size + 1]? = some (.cells (dsE x) 45 (0, 0)) := by rw [h2, ← s1]; exact heap_alloc_new w1 _
 have a3 : w3.heap[w.heap.size + 2]? = some (.cells #[.slice pa ln cap] 61 (0, 0)) := by rw [h3, ← s2]; exact heap_alloc_new w2 _
 have b1 : Below w.heap.size w w1 := by rw [h1]; exact (Below.refl _ w).alloc (Nat.le_refl _) _
 have b2 : Below w1.heap.size w1 w2 := by rw [h2]; exact (Below.refl _ w1).alloc (Nat.le_refl _) _
 have b3 : Below w2.heap.size w2 w3 := by rw [h3]; exact (Below.refl _ w2).alloc (Nat.le_refl _) _
 obtain ⟨W, hW⟩ : ∃ X, X = w3.alloc (.cells c.cs 36) := ⟨_, rfl⟩
 have b4 : Below w3.heap.size w3 W := by rw [hW]; exact (Below.refl _ w3).alloc (Nat.le_refl _) _
 have b23 := b3.trans (b4.mono b3.size)
 have b14 := b2.trans (b23.mono b2.size)
 refine ⟨W, by rw [hW, h3, h2, h1], ⟨heap_below b14 (lt_of_block a1) a1, heap_below b23 (lt_of_block a2) a2, heap_below b4 (lt_of_block a3) a3, by rw [hW, ← s3]; exact heap_alloc_new w3 _⟩, b1.trans (b14.mono b1.size), by rw [hW, World.size_alloc, s3]⟩
/-- The cell of what is gathered, with one change. -/
theorem out_make (V : World) (c : Ch) : ∃ W, W = (V.alloc (.cells c.cs 36)).alloc (.cells #[.slice (some ⟨V.heap.size, 0, none⟩) 1 1] 68) ∧ W.heap[V.heap.size]? = some (.cells c.cs 36 (0, 0)) ∧ W.heap[V.heap.size + 1]? = some (.cells #[.slice (some ⟨V.heap.size, 0, none⟩) 1 1] 68 (0, 0)) ∧ Below V.heap.size V W ∧ W.heap.size = V.heap.size + 2 := by
 obtain ⟨V1, h1⟩ : ∃ X, X = V.alloc (.cells c.cs 36) := ⟨_, rfl⟩
 obtain ⟨W, h2⟩ : ∃ X, X = V1.alloc (.cells #[.slice (some ⟨V.heap.size, 0, none⟩) 1 1] 68) := ⟨_, rfl⟩
 have s1 : V1.heap.size = V.heap.size + 1 := by rw [h1]; exact World.size_alloc _ _
 have a1 : V1.heap[V.heap.size]? = some (.cells c.cs 36 (0, 0)) := by rw [h1]; exact heap_alloc_new V _
 have a2 : W.heap[V.heap.size + 1]? = some (.cells #[.slice (some ⟨V.heap.size, 0, none⟩) 1 1] 68 (0, 0)) := by rw [h2, ← s1]; exact heap_alloc_new V1 _
 have b1 : Below V.heap.size V V1 := by rw [h1]; exact (Below.refl _ V).alloc (Nat.le_refl _) _
 have b2 : Below V1.heap.size V1 W := by rw [h2]; exact (Below.refl _ V1).alloc (Nat.le_refl _) _
 exact ⟨W, by rw [h2, h1], heap_below b2 (lt_of_block a1) a1, a2, b1.trans (b2.mono b1.size), by rw [h2, World.size_alloc, s1]⟩
theorem BsAt.ext {w V : World} {K M M1 : List Nat} {b : Bs} (h : BsAt w M b) (hm : Mv M w M1 V) (hK : ∀ y ∈ K, w.heap.size ≤ y ∧ y < V.heap.size) : BsAt V (K ++ M1) b :=
 h.mv ⟨hm.only, fun x hx => by
  rcases List.mem_append.1 hx with q | q
  · exact Or.inr (hK x q)
  · exact hm.new x q⟩
/-- What Plan says. -/
def PlanR (R : (List Ch × Int) × Ls) (M : List Nat) (m : Nat) (w : World) (e : Ending) (w' : World) : Prop :=
 ∃ v, e = .returned (.tuple #[v, .int .i64 R.1.2]) ∧ ChRow w' 0 v R.1.1 ∧ ∃ M', MgAt w' M' m R.2 ∧ Mv M w M' w' ∧ ∀ y, v.ownBlock = some y → w.heap.size ≤ y ∧ y ∉ M'
theorem PlanR.no {M M' : List Nat} {m : Nat} {w w' : World} {er : Int} {L : Ls} {R : (List Ch × Int) × Ls} (hR : R = (([], er), L)) (hm : MgAt w' M' m L) (hv : Mv M w M' w') : PlanR R M m w (.returned (.tuple #[.slice none 0 0, .int .i64 er])) w' := by
 subst hR
 exact ⟨_, rfl, RowE.nil _ _, M', hm, hv, fun y hy => by cases hy⟩
/-- What Plan has gathered ahead of the alternate indexes. -/
structure PSt (w V : World) (S M M1 : List Nat) (p m : Nat) (b : Bs) (u : Un) (x : Co) (pa : Option Addr) (ln cap : Nat) (c : Ch) (old : By) (L1 : Ls) (r o : Nat) : Prop where
 box : PBox w.heap.size p x pa ln cap c V
 row : V.heap[r]? = some (.cells (ownC c).cs 36 (0, 0))
 out : V.heap[r + 1]? = some (.cells #[.slice (some ⟨r, 0, none⟩) 1 1] 68 (0, 0))
 old : V.heap[o]? = some (.cells #[.string ⟨old.toArray⟩] 9 (0, 0))
 um : UM V S M1 p m b.val u L1
 mv : Mv M w M1 V
 num : w.heap.size + 4 ≤ r ∧ o = r + 2
 nm : ∀ y, w.heap.size ≤ y → y ≤ o → y ∉ M1
/-- The cells that Plan's second closure captures. -/
theorem PSt.start {w V : World} {S M M1 : List Nat} {p m : Nat} {b : Bs} {u : Un} {x : Co} {pa : Option Addr} {ln cap : Nat} {c : Ch} {old : By} {L1 : Ls} {r o : Nat} (h : PSt w V S M M1 p m b u x pa ln cap c old L1 r o) (hb : BsAt w M b) (hS : ∀ y ∈ S, y < w.heap.size) (th : Bool) :
 ∃ Vt, Vt = (V.alloc (.cells #[.bool th] 4)).alloc (.cells #[.slice none 0 0] 68) ∧
   PlIn Vt S M1 p m b u ⟨o, V.heap.size, w.heap.size + 3, w.heap.size, r + 1, V.heap.size + 1, .slice (some ⟨r, 0, none⟩) 1 1, .slice none 0 0, w.heap.size⟩ c old th ⟨[ownC c], [], L1⟩ ∧ Below V.heap.size V Vt := by
 obtain ⟨V2, h2⟩ : ∃ X, X = V.alloc (.cells #[.bool th] 4) := ⟨_, rfl⟩
 obtain ⟨Vt, h3⟩ : ∃ X, X = V2.alloc (.cells #[.slice none 0 0] 68) := ⟨_, rfl⟩
 have s2 : V2.heap.size = V.heap.size + 1 := by rw [h2]; exact World.size_alloc _ _
 have a2 : V2.heap[V.heap.size]? = some (.cells #[.bool th] 4 (0, 0)) := by rw [h2]; exact heap_alloc_new V _
 have a3 : Vt.heap[V.heap.size + 1]? = some (.cells #[.slice none 0 0] 68 (0, 0)) := by rw [h3, ← s2]; exact heap_alloc_new V2 _
 have b2 : Below V.heap.size V V2 := by rw [h2]; exact (Below.refl _ V).alloc (Nat.le_refl _) _
 have b3 : Below V2.heap.size V2 Vt := by rw [h3]; exact (Below.refl _ V2).alloc (Nat.le_refl _) _
 have hbt : Below V.heap.size V Vt := b2.trans (b3.mono (by omega))
 have hn := h.num
 have ho : o < V.heap.size := lt_of_block h.old
 have hwn : w.heap.size ≤ V.heap.size := by omega
 have hMl := fun y hy => h.um.mg.lt y hy
 have hst : Vt.heap.size = V.heap.size + 2 := by rw [h3, World.size_alloc, s2]
 refine ⟨Vt, by rw [h3, h2], ⟨h.um.below hbt, ?_, ⟨heap_below hbt (lt_of_block h.out) h.out, a3, chrow_one (heap_below hbt (lt_of_block h.row) h.row) (Nat.zero_le _), RowE.nil _ _, ?_⟩, heap_below hbt ho h.old, heap_below b3 (lt_of_block a2) a2, heap_below hbt (lt_of_block h.box.c) h.box.c, heap_below hbt (lt_of_block h.box.r) h.box.r, ?_, ?_, ?_⟩, hbt⟩
 · refine hb.ext (h.mv.step hbt) (fun y hy => ?_)
   have hy : y = r + 1 ∨ y = V.heap.size + 1 ∨ y = r := by simpa [Pk.m, Value.ownBlock] using hy
   rcases hy with rfl | rfl | rfl <;> omega
 · refine ⟨by simp only; omega, fun y hy => ?_, fun y hy => by cases hy⟩
   have hy : r = y := by simpa [Value.ownBlock] using hy
   subst hy
   exact ⟨by simp only; omega, by simp only; omega, by simp [Value.ownBlock]⟩
 · intro y hy
   have hy : y = r + 1 ∨ y = V.heap.size + 1 ∨ y = r := by simpa [Pk.m, Value.ownBlock] using hy
   refine ⟨fun hs => by have := hS y hs; rcases hy with rfl | rfl | rfl <;> omega, fun hm => ?_⟩
   rcases hy with rfl | rfl | rfl
   · exact h.nm _ (by omega) (by omega) hm
   · have := hMl _ hm; omega
   · exact h.nm _ (by omega) (by omega) hm
 · intro y hy
   have hy : y = o ∨ y = V.heap.size ∨ y = w.heap.size + 3 ∨ y = w.heap.size := by simpa [Pk.fx] using hy
   refine ⟨fun hm => ?_, fun hm => ?_⟩
   · have hm : y = r + 1 ∨ y = V.heap.size + 1 ∨ y = r := by simpa [Pk.m, Value.ownBlock] using hm
     omega
   · rcases hy with rfl | rfl | rfl | rfl
     · exact h.nm _ (by omega) (by omega) hm
     · have := hMl _ hm; omega
     · exact h.nm _ (by omega) (by omega) hm
     · exact h.nm _ (by omega) (by omega) hm
 · intro y hy
   have hy : y = r + 1 ∨ y = V.heap.size + 1 ∨ y = r := by simpa [Pk.m, Value.ownBlock] using hy
   show w.heap.size ≤ y
   omega
end

section
set_option linter.unusedSimpArgs false
set_option linter.unusedVariables false
open Go.RowKit Go.Sort
theorem str_make (V : World) : ∃ W, W = V.alloc (.cells #[.string ⟨#[]⟩] 9) ∧ W.heap[V.heap.size]? = some (.cells #[.string ⟨#[]⟩] 9 (0, 0)) ∧ Below V.heap.size V W ∧ W.heap.size = V.heap.size + 1 :=
 ⟨_, rfl, heap_alloc_new V _, (Below.refl _ V).alloc (Nat.le_refl _) _, World.size_alloc _ _⟩
theorem altU_len (C : Int → List Pr) (u : Un) (c : Ch) (old : By) (th : Bool) (a : Co) (g : Pg) : (altU C u c old th a g).2.out.length ≤ g.out.length + 1 ∧ (altU C u c old th a g).2.puts.length ≤ g.puts.length + 1 := by
 unfold altU
 obtain ⟨s1, hs1⟩ : ∃ s1, s1 = sideP a old th := ⟨_, rfl⟩
 obtain ⟨s2, hs2⟩ : ∃ s2, s2 = sideP a c.dat (decide (c.kind ≠ 1)) := ⟨_, rfl⟩
 rw [← hs1, ← hs2]
 by_cases h1 : s1 = s2
 · rw [if_pos h1]; exact ⟨by simp, by simp⟩
 · rw [if_neg h1]
   cases s1 <;> cases s2 <;> by_cases hu : a.z.uniq = true <;> simp [hu]
theorem altsU_len (C : Int → List Pr) (u : Un) (c : Ch) (old : By) (th : Bool) : ∀ (l : List Co) (g : Pg), (altsU C u c old th l g).2.out.length ≤ g.out.length + l.length ∧ (altsU C u c old th l g).2.puts.length ≤ g.puts.length + l.length
 | [], g => ⟨by simp [altsU], by simp [altsU]⟩
 | a :: l, g => by
   have h1 := altU_len C u c old th a g
   have h2 := altsU_len C u c old th l (altU C u c old th a g).2
   show (if (altU C u c old th a g).1 ≠ 0 then altU C u c old th a g else altsU C u c old th l (altU C u c old th a g).2).2.out.length ≤ _ ∧ (if (altU C u c old th a g).1 ≠ 0 then altU C u c old th a g else altsU C u c old th l (altU C u c old th a g).2).2.puts.length ≤ _
   rw [List.length_cons]
   split
   · exact ⟨by omega, by omega⟩
   · exact ⟨by omega, by omega⟩
theorem altsU_free {C : Int → List Pr} {u : Un} {c : Ch} {old : By} {th : Bool} : ∀ {l : List Co} {g : Pg}, g.L.queue = [] → (altsU C u c old th l g).1 ≠ 15 → (altsU C u c old th l g).2.L.queue = [] ∧ (altsU C u c old th l g).2.L.held.length ≤ g.L.held.length + 2 * l.length
 | [], g, hq, _ => ⟨hq, by simp [altsU]⟩
 | a :: l, g, hq, he => by
   have e1 : altsU C u c old th (a :: l) g = if (altU C u c old th a g).1 ≠ 0 then altU C u c old th a g else altsU C u c old th l (altU C u c old th a g).2 := rfl
   rw [e1] at he ⊢
   rw [List.length_cons]
   by_cases h0 : (altU C u c old th a g).1 ≠ 0
   · rw [if_pos h0] at he ⊢
     have := altU_free (C := C) (u := u) (c := c) (old := old) (th := th) (a := a) hq he
     exact ⟨this.1, by omega⟩
   · rw [if_neg h0] at he ⊢
     have f1 := altU_free (C := C) (u := u) (c := c) (old := old) (th := th) (a := a) hq (by omega)
     have f2 := altsU_free (l := l) f1.1 he
     exact ⟨f2.1, by omega⟩
theorem Mv.back0 {w V V8 : World} {M M1 T : List Nat} (h : Mv M w M1 V) (ho : Only T V V8) (hlo : ∀ y ∈ T, w.heap.size ≤ y) : Mv M w M1 V8 :=
 ⟨h.only.then ho (fun i hi => Or.inr (hlo i hi)), fun x hx => (h.new x hx).imp id (fun q => ⟨q.1, Nat.lt_of_lt_of_le q.2 ho.size⟩)⟩
theorem Mv.back2 {w W w' : World} {K M M1 K' M' : List Nat} (hT : Mv M w M1 W) (h : Mv (K ++ M1) W (K' ++ M') w') (hK : ∀ x ∈ K, w.heap.size ≤ x) (hM : ∀ x ∈ M', x < w'.heap.size) : Mv M w M' w' := by
 refine ⟨hT.only.then h.only (fun i hi => ?_), fun x hx => ?_⟩
 · rcases List.mem_append.1 hi with q | q
   · exact Or.inr (hK i q)
   · exact (hT.new i q).imp id (fun q => q.1)
 · rcases h.new x (List.mem_append_right _ hx) with q | ⟨q1, q2⟩
   · rcases List.mem_append.1 q with q | q
     · exact Or.inr ⟨hK x q, hM x hx⟩
     · exact (hT.new x q).imp id (fun r => ⟨r.1, hM x hx⟩)
   · exact Or.inr ⟨Nat.le_trans hT.only.size q1, q2⟩
theorem PlanR.fin {w Vt Vz w9 : World} {S M M1 Mz : List Nat} {p m : Nat} {b : Bs} {u : Un} {k kz : Pk} {c : Ch} {old : By} {th : Bool} {g3 : Pg} {oa : Option Addr} {on oc : Nat} {v9 : Value} {R : (List Ch × Int) × Ls} (hT : Mv M w M1 Vt) (hz : PlIn Vz S Mz p m b u kz c old th g3) (hm : Mv (k.m ++ M1) Vt (kz.m ++ Mz) Vz) (hlow : ∀ y ∈ k.m, w.heap.size ≤ y) (hlo : kz.lo = w.heap.size) (hv : kz.vO = .slice oa on oc)
 (hrow : ChRow w9 0 v9 (g3.out ++ g3.puts)) (hg : Vz.grownBy w9 (Value.slice oa on oc).ownBlock) (how : v9.ownBlock = (Value.slice oa on oc).ownBlock ∨ v9.ownBlock = some Vz.heap.size) (hR : R = ((g3.out ++ g3.puts, 0), g3.L)) : PlanR R M m w (.returned (.tuple #[v9, .int .i64 0])) w9 := by
 subst hR
 rw [← hv] at hg how
 have ho : Only kz.vO.ownBlock.toList Vz w9 := (Only.refl _ Vz).grown hg (fun x hx => Or.inl (by simp [hx]))
 have hmem : ∀ y ∈ kz.vO.ownBlock.toList, y ∈ kz.m := fun y hy => List.mem_append_left _ (List.mem_append_right _ hy)
 have hb := Mv.back2 hT hm hlow (fun y hy => hz.um.mg.lt y hy)
 have hwz := hb.only.size
 refine ⟨v9, rfl, hrow, Mz, hz.um.mg.only ho (fun y hy hmm => (hz.ap y (hmem y hmm)).2 hy), hb.back0 ho (fun y hy => by have := hz.low y (hmem y hy); omega), fun y hy => ?_⟩
 rcases how with q | q
 · rw [q] at hy
   have hk := hmem y (by simp [hy])
   have := hz.low y hk
   exact ⟨by omega, (hz.ap y hk).2⟩
 · rw [q] at hy; injection hy with hy
   exact ⟨by omega, fun hm' => by have := hz.um.mg.lt y hm'; omega⟩
theorem PSt.get {w V V7 : World} {S M M1 : List Nat} {p m : Nat} {b : Bs} {u : Un} {x : Co} {pa : Option Addr} {ln cap : Nat} {c : Ch} {L L1 : Ls} {r o : Nat} (h : PSt w V S M M p m b u x pa ln cap c [] L r o) (hM : ∀ y ∈ M, y < w.heap.size) (hm : MgAt V7 M1 m L1) (hv : Mv M V M1 V7) (old' : By) (hS : ∀ y ∈ S, y < w.heap.size) :
 V7.frozen? ⟨o, 0, none⟩ = false ∧ V7.cell? ⟨o, 0, none⟩ = some (.string ⟨#[]⟩) ∧ PSt w (V7.setCell ⟨o, 0, none⟩ (.string ⟨old'.toArray⟩)) S M M1 p m b u x pa ln cap c old' L1 r o := by
 have hn := h.num
 have hlo := lt_of_block h.old
 have hold := hv.only.heap h.old (h.nm _ (by omega) (Nat.le_refl _))
 have hnm1 : ∀ y, w.heap.size ≤ y → y ≤ o → y ∉ M1 := fun y h1 h2 hm1 => by
  rcases hv.new y hm1 with q | ⟨q, _⟩
  · have := hM y q; omega
  · omega
 have hum := h.um.mg' hm hv
 have ho : Only [o] V7 (V7.setCell ⟨o, 0, none⟩ (.string ⟨old'.toArray⟩)) := (Only.refl _ _).setCell (Or.inl (by simp)) _
 have hno : o ∉ M1 := hnm1 o (by omega) (Nat.le_refl _)
 refine ⟨frozen_of_row V7 o 0 _ _ hold, cell_at (i := 0) hold rfl, ⟨?_, ?_, ?_, ?_, ⟨?_, ?_, hum.dis⟩, ?_, hn, hnm1⟩⟩
 · exact (h.box.only hv.only (fun y hy => Or.inl (hM y hy))).only ho (fun y hy => by rw [List.mem_singleton] at hy; omega)
 · exact ho.heap (hv.only.heap h.row (h.nm _ (by omega) (by omega))) (by simp; omega)
 · exact ho.heap (hv.only.heap h.out (h.nm _ (by omega) (by omega))) (by simp; omega)
 · exact cell_row_any V7 o 0 _ _ _ _ hold
 · exact hum.un.only ho (fun y hy hm => by rw [List.mem_singleton] at hm; have := hS y hy; omega)
 · exact hum.mg.only ho (fun y hy hm => by rw [List.mem_singleton] at hm; subst hm; exact hno hy)
 · exact (h.mv.trans hv).back0 ho (fun y hy => by rw [List.mem_singleton] at hy; omega)
theorem nil_err {C : Int → List Pr} {u : Un} {L : Ls} {id : Int} {k : By} : (getU C u L id k).1.2 = 0 ∨ (getU C u L id k).1.2 = 1 ∨ (getU C u L id k).1.2 = 6 ∨ (getU C u L id k).1.2 = 15 := by
 unfold getU
 by_cases h1 : k.length < 1 ∨ 32 < k.length
 · rw [if_pos h1]; exact Or.inr (Or.inl rfl)
 · rw [if_neg h1]
   have he := lock_err u L id (pointR k) false
   obtain ⟨y, hy⟩ : ∃ y, y = lockU u L id (pointR k) false := ⟨_, rfl⟩
   rw [← hy] at he ⊢
   obtain ⟨e, L'⟩ := y
   dsimp only at he ⊢
   by_cases h2 : e ≠ 0
   · rw [if_pos h2]; rcases he with h | h | h
     · exact absurd h h2
     · exact Or.inr (Or.inl h)
     · exact Or.inr (Or.inr (Or.inr h))
   · rw [if_neg h2]
     cases chgU u id k with
     | none =>
       show (getL k (C id)).2 = 0 ∨ _
       unfold getL
       split
       · exact Or.inl rfl
       · exact Or.inr (Or.inr (Or.inl rfl))
     | some q => cases q with
       | none => exact Or.inr (Or.inr (Or.inl rfl))
       | some r => exact Or.inl rfl
section
attribute [local go_sem ↓] loadDs_down storeDs_down loadCh_down storeCh_down
end
end

end Go.Proofs.YtcefkngblddpoaaGreatDoor

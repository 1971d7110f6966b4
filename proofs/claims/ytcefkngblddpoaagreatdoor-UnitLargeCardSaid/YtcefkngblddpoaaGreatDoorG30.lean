/-
  Walks: whether locks conflict with one, whether one is covered; the locks of a unit; the waiting lock of a unit. Condition: the manager lies in memory.
  Walks: the units for which a lock waits; whether a unit is reached where nobody waits. Condition: the manager lies in memory.
  Walks: where nobody waits, no unit waits for another, and none is reached. Condition: the manager lies in memory, its queue is empty.
-/
import Derived.Test.YtcefkngblddpoaaGreatDoorG29
import Derived.Test.YtcefkngblddpoaaGreatDoorG27
import Derived.Carry
namespace Go.Proofs.YtcefkngblddpoaaGreatDoor

section
set_option maxRecDepth 100000
set_option maxHeartbeats 4000000
set_option linter.unusedSimpArgs false
set_option linter.unusedVariables false
open Go.RowKit Go.Sort
/-- Where a manager lies: its struct, the rows of locks. -/
structure Mk where
 p : Nat
 hv : Value
 qv : Value
abbrev Mk.m (k : Mk) : List Nat := k.p :: (k.hv.ownBlock.toList ++ k.qv.ownBlock.toList)
structure MgIn (w : World) (k : Mk) (L : Ls) : Prop where
 row : w.heap[k.p]? = some (.cells #[k.hv, k.qv] 112 (0, 0))
 held : LkRow w 0 k.hv L.held
 queue : LkRow w 0 k.qv L.queue
 ok : ∀ x ∈ L.held ++ L.queue, lkOk x = true
 few : L.held.length ≤ 900000 ∧ L.queue.length ≤ 900000
 ne : (∀ x, k.hv.ownBlock = some x → x ≠ k.p) ∧ (∀ x, k.qv.ownBlock = some x → x ≠ k.p) ∧ ∀ x, k.hv.ownBlock = some x → k.qv.ownBlock ≠ some x
/-- A manager in memory, which depends on the blocks S. -/
def MgAt (w : World) (S : List Nat) (p : Nat) (L : Ls) : Prop := ∃ k : Mk, k.p = p ∧ S = k.m ∧ MgIn w k L
theorem own_lt {e : TypeId} {z : Nat} {w : World} {base : Nat} {v : Value} {n : Nat} {xs : List Value} (h : w.ownsRow base e z v n xs) {x : Nat} (hx : v.ownBlock = some x) : x < w.heap.size := by
 rcases h.2 with ⟨rfl, _⟩ | ⟨g, cap, cur, rfl, _, hg, _⟩
 · cases hx
 · have : g = x := by simpa [Value.ownBlock] using hx
   subst this; exact lt_of_block hg
theorem MgIn.lt {w : World} {k : Mk} {L : Ls} (h : MgIn w k L) : ∀ x ∈ k.m, x < w.heap.size := by
 intro x hx
 rcases List.mem_cons.1 hx with rfl | hx
 · exact lt_of_block h.row
 · rcases List.mem_append.1 hx with hx | hx
   · exact own_lt h.held (by simpa using hx)
   · exact own_lt h.queue (by simpa using hx)
theorem MgIn.only {w w' : World} {T : List Nat} {k : Mk} {L : Ls} (h : MgIn w k L) (ho : Only T w w') (hT : ∀ x ∈ k.m, x ∉ T) : MgIn w' k L :=
 ⟨ho.heap h.row (hT _ (by simp)), h.held.only ho (fun x hx => hT x (by simp [hx])), h.queue.only ho (fun x hx => hT x (by simp [hx])), h.ok, h.few, h.ne⟩
theorem MgIn.below {w w' : World} {k : Mk} {L : Ls} (h : MgIn w k L) (hb : Below w.heap.size w w') : MgIn w' k L := h.only (T := []) (Only.of_below hb) (fun _ _ hm => by cases hm)
theorem MgAt.only {w w' : World} {S T : List Nat} {p : Nat} {L : Ls} (h : MgAt w S p L) (ho : Only T w w') (hT : ∀ x ∈ S, x ∉ T) : MgAt w' S p L := by
 obtain ⟨k, h1, h2, h3⟩ := h; subst h2; exact ⟨k, h1, rfl, h3.only ho hT⟩
theorem MgAt.below {w w' : World} {S : List Nat} {p : Nat} {L : Ls} (h : MgAt w S p L) (hb : Below w.heap.size w w') : MgAt w' S p L := by
 obtain ⟨k, h1, h2, h3⟩ := h; exact ⟨k, h1, h2, h3.below hb⟩
theorem MgAt.lt {w : World} {S : List Nat} {p : Nat} {L : Ls} (h : MgAt w S p L) : ∀ x ∈ S, x < w.heap.size := by
 obtain ⟨k, h1, h2, h3⟩ := h; subst h2; exact h3.lt
theorem MgIn.cells {w : World} {k : Mk} {L : Ls} (h : MgIn w k L) : ∃ a c b d, k.hv = .slice a L.held.length c ∧ k.qv = .slice b L.queue.length d ∧ Lks w a L.held ∧ Lks w b L.queue ∧
 w.cell? ⟨k.p, 0, none⟩ = some (.slice a L.held.length c) ∧ w.cell? ⟨k.p, 1, none⟩ = some (.slice b L.queue.length d) := by
 obtain ⟨a, c, hv, _⟩ := RowE.cells encLk h.held
 obtain ⟨b, d, qv, _⟩ := RowE.cells encLk h.queue
 exact ⟨a, c, b, d, hv, qv, (lks_row (hv ▸ h.held)).1, (lks_row (qv ▸ h.queue)).1, cell_at (i := 0) h.row (by rw [← hv]; rfl), cell_at (i := 1) h.row (by rw [← qv]; rfl)⟩
/-- The held locks are another row now. -/
theorem MgIn.setH {w w1 : World} {k : Mk} {L : Ls} (h : MgIn w k L) {v' : Value} {l : List Lk} (ho : Only k.hv.ownBlock.toList w w1) (hr : LkRow w1 0 v' l) (hov : ∀ x, v'.ownBlock = some x → k.hv.ownBlock = some x ∨ w.heap.size ≤ x) (hl : ∀ x ∈ l, lkOk x = true) (hn : l.length ≤ 900000) :
 MgIn (w1.setCell ⟨k.p, 0, none⟩ v') { k with hv := v' } { L with held := l } ∧ Mv k.m w ({ k with hv := v' } : Mk).m (w1.setCell ⟨k.p, 0, none⟩ v') := by
 obtain ⟨n1, n2, n3⟩ := h.ne
 have hlt := h.lt
 have lp := hlt k.p (by simp)
 have hnp : k.p ∉ k.hv.ownBlock.toList := fun hx => n1 _ (by simpa using hx) rfl
 have hrow := ho.heap h.row hnp
 have hT : Only (k.p :: k.hv.ownBlock.toList) w (w1.setCell ⟨k.p, 0, none⟩ v') := (ho.mono (fun x hx _ => List.mem_cons_of_mem _ hx)).setCell (Or.inl (by simp)) _
 have o1 : Only [k.p] w1 (w1.setCell ⟨k.p, 0, none⟩ v') := (Only.refl _ _).setCell (Or.inl (by simp)) _
 have hnv : ∀ x, v'.ownBlock = some x → x ≠ k.p := fun x hx => by
  rcases hov x hx with q | q
  · exact n1 x q
  · omega
 refine ⟨⟨?_, ?_, ?_, ?_, ⟨hn, h.few.2⟩, hnv, n2, fun x hx hq => ?_⟩, ⟨hT.mono (fun x hx _ => ?_), fun x hx => ?_⟩⟩
 · have := cell_row_any w1 k.p 0 _ _ _ v' hrow
   exact this
 · exact hr.only o1 (fun x hx => by rw [List.mem_singleton]; exact hnv x hx)
 · refine h.queue.only hT (fun x hx hm => ?_)
   rcases List.mem_cons.1 hm with rfl | hm
   · exact n2 _ hx rfl
   · exact n3 x (by simpa using hm) hx
 · intro x hx
   rcases List.mem_append.1 hx with hx | hx
   · exact hl x hx
   · exact h.ok x (List.mem_append_right _ hx)
 · rcases hov x hx with q | q
   · exact n3 x q hq
   · have := own_lt h.queue hq; omega
 · rcases List.mem_cons.1 hx with rfl | hx
   · simp
   · simp at hx ⊢; exact Or.inr (Or.inl hx)
 · rcases List.mem_cons.1 hx with rfl | hx
   · exact Or.inl (by simp)
   · rcases List.mem_append.1 hx with hx | hx
     · have hx : v'.ownBlock = some x := by simpa using hx
       rcases hov x hx with q | q
       · exact Or.inl (by simp [q])
       · exact Or.inr ⟨q, Nat.lt_of_lt_of_le (own_lt hr hx) o1.size⟩
     · exact Or.inl (by simp at hx ⊢; exact Or.inr (Or.inr hx))
/-- The waiting locks are another row now. -/
theorem MgIn.setQ {w w1 : World} {k : Mk} {L : Ls} (h : MgIn w k L) {v' : Value} {l : List Lk} (ho : Only k.qv.ownBlock.toList w w1) (hr : LkRow w1 0 v' l) (hov : ∀ x, v'.ownBlock = some x → k.qv.ownBlock = some x ∨ w.heap.size ≤ x) (hl : ∀ x ∈ l, lkOk x = true) (hn : l.length ≤ 900000) :
 MgIn (w1.setCell ⟨k.p, 1, none⟩ v') { k with qv := v' } { L with queue := l } ∧ Mv k.m w ({ k with qv := v' } : Mk).m (w1.setCell ⟨k.p, 1, none⟩ v') := by
 obtain ⟨n1, n2, n3⟩ := h.ne
 have hlt := h.lt
 have lp := hlt k.p (by simp)
 have hnp : k.p ∉ k.qv.ownBlock.toList := fun hx => n2 _ (by simpa using hx) rfl
 have hrow := ho.heap h.row hnp
 have hT : Only (k.p :: k.qv.ownBlock.toList) w (w1.setCell ⟨k.p, 1, none⟩ v') := (ho.mono (fun x hx _ => List.mem_cons_of_mem _ hx)).setCell (Or.inl (by simp)) _
 have o1 : Only [k.p] w1 (w1.setCell ⟨k.p, 1, none⟩ v') := (Only.refl _ _).setCell (Or.inl (by simp)) _
 have hnv : ∀ x, v'.ownBlock = some x → x ≠ k.p := fun x hx => by
  rcases hov x hx with q | q
  · exact n2 x q
  · omega
 refine ⟨⟨?_, ?_, ?_, ?_, ⟨h.few.1, hn⟩, n1, hnv, fun x hx hq => ?_⟩, ⟨hT.mono (fun x hx _ => ?_), fun x hx => ?_⟩⟩
 · have := cell_row_any w1 k.p 1 _ _ _ v' hrow
   exact this
 · refine h.held.only hT (fun x hx hm => ?_)
   rcases List.mem_cons.1 hm with rfl | hm
   · exact n1 _ hx rfl
   · exact n3 x hx (by simpa using hm)
 · exact hr.only o1 (fun x hx => by rw [List.mem_singleton]; exact hnv x hx)
 · intro x hx
   rcases List.mem_append.1 hx with hx | hx
   · exact h.ok x (List.mem_append_left _ hx)
   · exact hl x hx
 · rcases hov x hq with q | q
   · exact n3 x hx q
   · have := own_lt h.held hx; omega
 · rcases List.mem_cons.1 hx with rfl | hx
   · simp
   · simp at hx ⊢; exact Or.inr (Or.inr hx)
 · rcases List.mem_cons.1 hx with rfl | hx
   · exact Or.inl (by simp)
   · rcases List.mem_append.1 hx with hx | hx
     · exact Or.inl (by simp at hx ⊢; exact Or.inr (Or.inl hx))
     · have hx : v'.ownBlock = some x := by simpa using hx
       rcases hov x hx with q | q
       · exact Or.inl (by simp [q])
       · exact Or.inr ⟨q, Nat.lt_of_lt_of_le (own_lt hr hx) o1.size⟩
section
attribute [local go_sem ↓] loadLk_down storeLk_down
theorem conflicts_any (w : World) (a : Option Addr) (c : Nat) (l : List Lk) (x : Lk) (h : Lks w a l) (hl : l.length ≤ 1000000) :
 Calls Tryz.prog 45 #[.slice a l.length c, .agg x.cs] w fun e w' => e = .returned (.bool (conL l x)) ∧ Below w.heap.size w w' := by
 have hb := box_below0 w x.cs 60
 have hz := heap_alloc_new w (.cells x.cs 60)
 have HB := Lib.hid hb
 have HC := Lib.hid (conF_w (w.alloc (.cells x.cs 60)) a c l w.heap.size (fun y => conB y x) (h.below hb) hl (fun W hW y => conf1_any x w.heap.size W (heap_below hW (lt_of_block hz) hz) y))
 have HF := Lib.hid (show conL l x = l.any (fun y => conB y x) from rfl)
 generalize x.cs = xc at *
 clear hb hz h
 go_enter Tryz.func45, Tryz.ntmps45
 go_wp2_with fail
 refine HC.out.mono ?_
 rintro e w2 ⟨rfl, hb2⟩
 have HB2 := Lib.hid (HB.out.trans (hb2.mono HB.out.size))
 clear hb2
 go_wp2_with fail
 go_ret
 exact ⟨by rw [HF.out]; rfl, HB2.out⟩
theorem covered_w (w : World) (k : Mk) (L : Ls) (x : Lk) (h : MgIn w k L) :
 Calls Tryz.prog 286 #[.pointer (some ⟨k.p, 0, none⟩), .agg x.cs] w fun e w' => e = .returned (.bool (covL L.held x)) ∧ Below w.heap.size w w' := by
 have hb := box_below0 w x.cs 60
 have hz := heap_alloc_new w (.cells x.cs 60)
 have HB := Lib.hid hb
 obtain ⟨a, c, b, d, _, _, hh, _, k0, _⟩ := h.cells
 have c0 := (hb.cell (p := ⟨k.p, 0, none⟩) (block_lt_of_cell k0)).trans k0
 have HC := Lib.hid (conC_w (w.alloc (.cells x.cs 60)) a c L.held w.heap.size (fun y => cov1B y x) (hh.below hb) (by have := h.few; omega) (fun W hW y => cov1_any x w.heap.size W (heap_below hW (lt_of_block hz) hz) y))
 have HF := Lib.hid (show covL L.held x = L.held.any (fun y => cov1B y x) from rfl)
 generalize x.cs = xc at *
 clear hb hz h hh k0
 go_enter Tryz.func286, Tryz.ntmps286
 go_wp2_with fail
 refine HC.out.mono ?_
 rintro e w2 ⟨rfl, hb2⟩
 have HB2 := Lib.hid (HB.out.trans (hb2.mono HB.out.size))
 clear hb2
 go_wp2_with fail
 go_ret
 exact ⟨by rw [HF.out]; rfl, HB2.out⟩
theorem waiting_w (w : World) (k : Mk) (L : Ls) (u : Int) (h : MgIn w k L) :
 Calls Tryz.prog 283 #[.pointer (some ⟨k.p, 0, none⟩), .int .i64 u] w fun e w' => e = .returned (idxV (idxL (fun y => decide (y.unit = u)) L.queue 0)) ∧ Below w.heap.size w w' := by
 have hb := box_below0 w #[.int .i64 u] 3
 have hz := heap_alloc_new w (.cells #[.int .i64 u] 3)
 have HB := Lib.hid hb
 obtain ⟨a, c, b, d, _, _, _, hh, _, k0⟩ := h.cells
 have c0 := (hb.cell (p := ⟨k.p, 1, none⟩) (block_lt_of_cell k0)).trans k0
 have hu := cell_at (i := 0) (v := .int .i64 u) hz rfl
 have HC := Lib.hid (idxW_w (w.alloc (.cells #[.int .i64 u] 3)) b d L.queue w.heap.size (fun y => decide (y.unit = u)) (hh.below hb) (by have := h.few; omega) (fun W hW y => wait1_any u w.heap.size W ((hW.cell (p := ⟨w.heap.size, 0, none⟩) (block_lt_of_cell hu)).trans hu) y))
 clear hb hz h hh k0 hu
 generalize idxV (idxL (fun y => decide (y.unit = u)) L.queue 0) = q at HC ⊢
 go_enter Tryz.func283, Tryz.ntmps283
 go_wp2_with fail
 refine HC.out.mono ?_
 rintro e w2 ⟨rfl, hb2⟩
 have HB2 := Lib.hid (HB.out.trans (hb2.mono HB.out.size))
 clear hb2
 go_wp2_with fail
 go_ret
 exact ⟨rfl, HB2.out⟩
theorem ofU_snoc (l : List Lk) (u : Int) (j : Nat) (h : j < l.length) : ofU (l.take (j + 1)) u = ofU (l.take j) u ++ (if l[j].unit = u then [l[j]] else []) := by
 rw [tk_snoc l j h, ofU, ofU, List.filter_append]
 congr 1
 by_cases e : l[j].unit = u <;> simp [e]
theorem held_w (w : World) (k : Mk) (L : Ls) (u : Int) (h : MgIn w k L) :
 Calls Tryz.prog 29 #[.pointer (some ⟨k.p, 0, none⟩), .int .i64 u] w fun e w' => ∃ v, e = .returned v ∧ LkRow w' w.heap.size v (ofU L.held u) ∧ Below w.heap.size w w' := by
 obtain ⟨a, c, b, d, _, _, hh, _, c0, _⟩ := h.cells
 have hfew := h.few
 have hll : L.held.length ≤ 1000000 := by omega
 have HH := Lib.hid hh
 clear h hh hfew
 generalize L.held = O at *
 go_enter Tryz.func29, Tryz.ntmps29
 go_wp2_with fail
 go_loopw [5, 13] (fun v t wr => ∃ j : Nat, j ≤ O.length ∧ t = .int .i64 j ∧ LkRow wr w.heap.size v (ofU (O.take j) u) ∧ Below w.heap.size w wr) (fun _ t _ => O.length - (intOf t).toNat)
 case atStart => exact ⟨0, by omega, rfl, RowE.nil _ _, Below.refl _ _⟩
 case round =>
  obtain ⟨j, hj, rfl, hrow, hb⟩ := hrel
  have HR := Lib.hid hrow
  have HB := Lib.hid hb
  by_cases hlt : j < O.length
  · have hltI : (j : Int) < (O.length : Int) := by omega
    obtain ⟨g, off, rfl, hg, hat⟩ := (HH.out.below hb).get hlt
    obtain ⟨W2, hst, hz2, hb2⟩ := put_lk wr O[j]
    have dl0 := (hat.keep (box_below0 wr lkZ 60) hg).load
    have dl := hat.load
    have c20 := cell_at (i := 0) (v := .int .i64 O[j].unit) hz2 rfl
    have dl2 := loadLk_at hz2 rfl
    have HSN := Lib.hid (ofU_snoc O u j hlt)
    have HB2 := Lib.hid hb2
    have HZ2 := Lib.hid hz2
    clear hb hrow hat hb2 hz2
    generalize O[j] = x at hst HZ2 dl dl0 c20 dl2 HSN
    by_cases hu : x.unit = u
    · rw [if_pos hu] at HSN
      have hu1 : (x.unit == u) = true := by simp [hu]
      have HRW := Lib.hid (HR.out.below HB2.out)
      have HL := Lib.hid (show (ofU (O.take j) u).length ≤ 1000000 from Nat.le_trans (List.length_filter_le _ _) (by rw [List.length_take]; omega))
      have HBF := Lib.hid (HB.out.trans (HB2.out.mono HB.out.size))
      generalize hX : ofU (O.take j) u = X at HRW HL HSN
      obtain ⟨va, vc, rfl⟩ := RowE.spell encLk HRW.out
      clear hX hu c0
      obtain ⟨xu, xi, ⟨xlo, xhi, xen⟩, xex⟩ := x
      go_wp2_with (at_builtin; go_must (refine wpList_append_one rfl _ _ rfl encLk w.heap.size (.slice va X.length vc) X ⟨xu, xi, ⟨xlo, xhi, xen⟩, xex⟩ rfl (HRW.out.below (box_below0 _ _ _)) W2.heap.size rfl (heap_alloc_new W2 (.cells (lkC ⟨xu, xi, ⟨xlo, xhi, xen⟩, xex⟩) 60)) rfl ?e1 ?e2 ?_))
      case e1 => exact HL.out
      case e2 => have := HBF.out.size; simp; omega
      intro v' w5 hR5 hg5 _
      have HR5 := Lib.hid (show LkRow w5 w.heap.size v' (ofU (O.take (j + 1)) u) by rw [HSN.out]; exact hR5)
      have HB5 := Lib.hid (show Below w.heap.size w w5 from ((Only.of_below (S := []) (HBF.out.trans ((box_below0 W2 (lkC ⟨xu, xi, ⟨xlo, xhi, xen⟩, xex⟩) 60).mono HBF.out.size))).grown hg5 (fun x hx => Or.inr (row_own HRW.out hx))).to_below)
      clear hR5 hg5
      go_wp2_with fail
      go_roundw
      case rel => exact ⟨j + 1, by omega, by go_num, HR5.out, HB5.out⟩
      case measure => (simp [intOf]) <;> omega
    · rw [if_neg hu, List.append_nil] at HSN
      have hu1 : (x.unit == u) = false := by simp [hu]
      have HRW := Lib.hid (show LkRow W2 w.heap.size _ (ofU (O.take (j + 1)) u) by rw [HSN.out]; exact HR.out.below HB2.out)
      have HBF := Lib.hid (HB.out.trans (HB2.out.mono HB.out.size))
      clear hu
      go_wp2_with fail
      go_roundw
      case rel => exact ⟨j + 1, by omega, by go_num, HRW.out, HBF.out⟩
      case measure => (simp [intOf]) <;> omega
  · have hltI : ¬ (j : Int) < (O.length : Int) := by omega
    have HQ := Lib.hid (show O.take j = O from List.take_of_length_le (by omega))
    clear hb hrow
    go_wp2_with fail
    go_ret
    rw [HQ.out] at HR
    exact ⟨_, rfl, HR.out, HB.out⟩
end
end

section
set_option maxRecDepth 100000
set_option maxHeartbeats 8000000
set_option linter.unusedSimpArgs false
set_option linter.unusedVariables false
open Go.RowKit Go.Sort
/-- What a set holds at each of its keys. -/
def setV (_ : Unit) : Value := .bool true
/-- The units of some locks, as keys. -/
def unM (p : Lk → Bool) (m : List (Int × Unit)) (l : List Lk) : List (Int × Unit) := l.foldl (fun m y => if p y = true then aset m y.unit () else m) m
theorem unM_snoc (p : Lk → Bool) (m : List (Int × Unit)) (l : List Lk) (j : Nat) (h : j < l.length) : unM p m (l.take (j + 1)) = if p l[j] = true then aset (unM p m (l.take j)) l[j].unit () else unM p m (l.take j) := by
 rw [tk_snoc l j h, unM, List.foldl_append]; rfl
theorem unM_keys (p : Lk → Bool) (k : Int) : ∀ (l : List Lk) (m : List (Int × Unit)), k ∈ (unM p m l).map Prod.fst ↔ k ∈ m.map Prod.fst ∨ ∃ y ∈ l, p y = true ∧ y.unit = k
 | [], m => by simp [unM]
 | x :: l, m => by
   have ih := unM_keys p k l (if p x = true then aset m x.unit () else m)
   rw [show unM p m (x :: l) = unM p (if p x = true then aset m x.unit () else m) l from rfl, ih]
   by_cases hp : p x = true
   · rw [if_pos hp, aset_keys]
     constructor
     · rintro (h | ⟨y, hy, h1, h2⟩)
       · split at h
         · exact Or.inl h
         · rcases List.mem_append.1 h with h | h
           · exact Or.inl h
           · exact Or.inr ⟨x, by simp, hp, by simpa using (List.mem_singleton.1 h).symm⟩
       · exact Or.inr ⟨y, by simp [hy], h1, h2⟩
     · rintro (h | ⟨y, hy, h1, h2⟩)
       · left; split
         · exact h
         · exact List.mem_append_left _ h
       · rcases List.mem_cons.1 hy with rfl | hy
         · left; subst h2; split
           · assumption
           · simp
         · exact Or.inr ⟨y, hy, h1, h2⟩
   · rw [if_neg hp]
     constructor
     · rintro (h | ⟨y, hy, h1, h2⟩)
       · exact Or.inl h
       · exact Or.inr ⟨y, by simp [hy], h1, h2⟩
     · rintro (h | ⟨y, hy, h1, h2⟩)
       · exact Or.inl h
       · rcases List.mem_cons.1 hy with rfl | hy
         · exact absurd h1 hp
         · exact Or.inr ⟨y, hy, h1, h2⟩
/-- The units for which a lock waits, behind some locks of the queue. -/
def blkM (held : List Lk) (x : Lk) (before : List Lk) : List (Int × Unit) := unM (fun y => conB y x && !conL (ofU held x.unit) y) (unM (fun y => conB y x) [] held) before
theorem nil_keys {α β : Type} {l : List (α × β)} (h : ∀ k, k ∉ l.map Prod.fst) : l = [] := by
 cases l with
 | nil => rfl
 | cons p l => exact absurd (List.mem_map.2 ⟨p, by simp, rfl⟩) (h p.1)
theorem blkM_nil (s : Ls) (x : Lk) : blkM s.held x s.queue = [] ↔ blkB s x = false := by
 unfold blkB conL
 rw [Bool.or_eq_false_iff, List.any_eq_false, List.any_eq_false]
 constructor
 · intro h
   have hk : ∀ k, ¬ (k ∈ (blkM s.held x s.queue).map Prod.fst) := by rw [h]; simp
   simp only [blkM, unM_keys] at hk
   exact ⟨fun y hy hc => hk y.unit (Or.inl (Or.inr ⟨y, hy, hc, rfl⟩)), fun y hy hc => hk y.unit (Or.inr ⟨y, hy, hc, rfl⟩)⟩
 · rintro ⟨h1, h2⟩
   refine nil_keys fun k hk => ?_
   simp only [blkM, unM_keys] at hk
   rcases hk with (hk | ⟨y, hy, hc, _⟩) | ⟨y, hy, hc, _⟩
   · simp at hk
   · exact h1 y hy hc
   · exact h2 y hy hc
theorem blkM_other (held : List Lk) (x : Lk) (before : List Lk) (k : Int) (h : k ∈ (blkM held x before).map Prod.fst) : k ≠ x.unit := by
 simp only [blkM, unM_keys] at h
 rcases h with (h | ⟨y, _, hc, rfl⟩) | ⟨y, _, hc, rfl⟩
 · simp at h
 · unfold conB at hc; simp at hc; exact hc.1
 · unfold conB at hc; simp at hc; exact hc.1.1
theorem unit_i64 {x : Lk} (h : lkOk x = true) : I64 x.unit := by
 unfold lkOk numOk at h
 simp at h
 exact i64_of (by omega) (by omega)
theorem Lks.only {w w' : World} {T : List Nat} {a l} (h : Lks w a l) (ho : Only T w w') (hT : ∀ b off, a = some ⟨b, off, none⟩ → l ≠ [] → b ∉ T) : Lks w' a l :=
 ⟨fun hl => by
   obtain ⟨b, off, h1, h2, h3⟩ := h.cells hl
   exact ⟨b, off, h1, Nat.lt_of_lt_of_le h2 ho.size, fun i hi j v hj => by rw [ho.cell (p := ⟨b, off + i * 6 + j, none⟩) h2 (hT b off h1 hl)]; exact h3 i hi j v hj⟩⟩
section
attribute [local go_sem ↓] loadLk_down storeLk_down
theorem blockers_w (w : World) (k : Mk) (L : Ls) (x : Lk) (ba : Option Addr) (bc : Nat) (bl : List Lk) (h : MgIn w k L) (hx : lkOk x = true) (hbl : Lks w ba bl) (hbn : bl.length ≤ 900000) (hbo : ∀ y ∈ bl, lkOk y = true) :
 Calls Tryz.prog 121 #[.pointer (some ⟨k.p, 0, none⟩), .agg x.cs, .slice ba bl.length bc] w fun e w' => ∃ g, e = .returned (.map (some g)) ∧ w.heap.size ≤ g ∧ amap w' g (Value.int .i64) setV I64 (blkM L.held x bl) ∧ Below w.heap.size w w' := by
 obtain ⟨ha, hc, _, _, _, _, hh0, _, k00, _⟩ := h.cells
 obtain ⟨W1, hW1⟩ : ∃ W1, W1 = (w.alloc (.cells x.cs 60)).alloc (.map #[] 0) := ⟨_, rfl⟩
 have hz0 := heap_alloc_new w (.cells x.cs 60)
 have hsz : (w.alloc (.cells x.cs 60)).heap.size = w.heap.size + 1 := by simp
 have hm := amap_new (w.alloc (.cells x.cs 60)) (Value.int .i64) setV I64
 have hz := (halloc (w.alloc (.cells x.cs 60)) (.map #[] 0) (by simp)).trans hz0
 have hb : Below w.heap.size w W1 := by rw [hW1]; exact ((Below.refl _ w).alloc (Nat.le_refl _) _).alloc (by simp) _
 have hs1 : W1.heap.size = w.heap.size + 2 := by rw [hW1]; simp
 rw [hsz] at hm
 rw [← hW1] at hz hm
 have h1 := h.below hb
 have HEL := Lib.hid (held_w W1 k L x.unit h1)
 have c0 := cell_at (i := 0) (v := .int .i64 x.unit) hz rfl
 have HNA := Lib.hid (show ∀ (a : Option Addr) (l : List Lk), Lks w a l → ∀ b off, a = some ⟨b, off, none⟩ → l ≠ [] → b ∉ [w.heap.size + 1] from fun a l hl b off e hne hm => by
  obtain ⟨b', off', e', hb', _⟩ := hl.cells hne
  rw [e] at e'; injection e' with e'; injection e' with e' _ _
  rw [List.mem_singleton] at hm
  omega)
 have HGG := Lib.hid (show w.heap.size ≤ w.heap.size + 1 by omega)
 have HNX := Lib.hid (show w.heap.size ∉ [w.heap.size + 1] by simp)
 have HW1 := Lib.hid hW1
 have HZ := Lib.hid hz
 have HM := Lib.hid hm
 have HB := Lib.hid hb
 have HLB0 := Lib.hid hbl
 have HH0 := Lib.hid hh0
 have HX := Lib.hid hx
 have HBO := Lib.hid hbo
 have HS1 := Lib.hid hs1
 have HK0 := Lib.hid ((hb.cell (p := ⟨k.p, 0, none⟩) (block_lt_of_cell k00)).trans k00)
 have HPL := Lib.hid (Nat.lt_of_lt_of_le (block_lt_of_cell k00) hb.size)
 have HHO := Lib.hid (show ∀ y ∈ L.held, lkOk y = true from fun y hy => h.ok y (List.mem_append_left _ hy))
 have hfew := h.few
 have hmm := @run_makeMap Tryz.prog
 clear hz0 hm hz hb hW1 h1 h hbl hx hbo hs1 hh0 k00
 have HF := Lib.hid (show blkM L.held x bl = unM (fun y => conB y x && !conL (ofU L.held x.unit) y) (unM (fun y => conB y x) [] L.held) bl from rfl)
 generalize blkM L.held x bl = R at HF ⊢
 go_enter Tryz.func121, Tryz.ntmps121
 go_upto_region 2 with fail
 rw [← HW1.out]
 clear hmm
 go_wp2_with fail
 refine HEL.out.mono ?_
 rintro e W2 ⟨hv, rfl, hrow, hb2⟩
 obtain ⟨va, vc, rfl⟩ := RowE.spell encLk hrow
 have HL2 := Lib.hid (lks_row hrow).1
 have HB2 := Lib.hid (HB.out.trans (hb2.mono HB.out.size))
 have HZ2 := Lib.hid (heap_below hb2 (lt_of_block HZ.out) HZ.out)
 have HM2 := Lib.hid (amap_keep HM.out (hb2.block _ (amap_lt HM.out)))
 have HLB2 := Lib.hid (HLB0.out.below HB2.out)
 have HH2 := Lib.hid (HH0.out.below HB2.out)
 have k0 := (hb2.cell (p := ⟨k.p, 0, none⟩) HPL.out).trans HK0.out
 have HG := Lib.hid (show w.heap.size + 1 < W2.heap.size from Nat.lt_of_lt_of_le (by have := HS1.out; omega) hb2.size)
 have HOL := Lib.hid (show (ofU L.held x.unit).length ≤ 1000000 from Nat.le_trans (List.length_filter_le _ _) (by omega))
 have HVB := Lib.hid (show ∀ b off, va = some ⟨b, off, none⟩ → ofU L.held x.unit ≠ [] → b ∉ [w.heap.size + 1] from fun b off e hne hm => by
  obtain ⟨a', c', hv', _, _, hg⟩ := RowE.cells encLk hrow
  obtain ⟨g, hga, _, hgb, _⟩ := hg hne
  injection hv' with e1 _ _
  rw [← e1, e] at hga
  injection hga with e; injection e with e _ _
  have := HS1.out
  rw [List.mem_singleton] at hm
  omega)
 have HHN := Lib.hid (HNA.out ha L.held HH0.out)
 have HBN := Lib.hid (HNA.out ba bl HLB0.out)
 generalize hOW : ofU L.held x.unit = OW at *
 generalize L.held = O at *
 generalize w.heap.size + 1 = g at *
 clear hb2 hrow c0 HEL HNA HB HZ HM HK0 HPL HH0 HLB0 hOW
 go_wp2_with fail
 go_loopw [23] (fun t wr => ∃ j : Nat, j ≤ O.length ∧ t = .int .i64 j ∧ amap wr g (Value.int .i64) setV I64 (unM (fun y => conB y x) [] (O.take j)) ∧ Only [g] W2 wr) (fun t _ => O.length - (intOf t).toNat)
 case atStart => exact ⟨0, by omega, rfl, HM2.out, Only.refl _ _⟩
 case round =>
  obtain ⟨j, hj, rfl, hmr, hon⟩ := hrel
  have HN := Lib.hid hon
  have HMR := Lib.hid hmr
  by_cases hlt : j < O.length
  · have hltI : (j : Int) < (O.length : Int) := by omega
    obtain ⟨b, off, rfl, hg, hat⟩ := (HH2.out.only hon HHN.out).get hlt
    obtain ⟨W3, hst, hz3, hb3⟩ := put_lk wr O[j]
    have dl0 := (hat.keep (box_below0 wr lkZ 60) hg).load
    have dl := hat.load
    have c30 := cell_at (i := 0) (v := .int .i64 O[j].unit) hz3 rfl
    have dl3 := loadLk_at hz3 rfl
    have hzx := hon.heap HZ2.out HNX.out
    have dlx := loadLk_at (heap_below hb3 (lt_of_block hzx) hzx) rfl
    have HSN := Lib.hid (unM_snoc (fun y => conB y x) [] O j hlt)
    have HC := Lib.hid (conflict_any O[j] x W3)
    have HIU := Lib.hid (unit_i64 (HHO.out O[j] (List.getElem_mem hlt)))
    have HB3 := Lib.hid hb3
    have HZ3 := Lib.hid hz3
    clear hon hmr hat hb3 hz3 hzx k0
    generalize O[j] = y at hst HZ3 dl dl0 c30 dl3 HSN HC HIU
    obtain ⟨yc, hyc⟩ : ∃ yc, yc = y.cs := ⟨_, rfl⟩
    obtain ⟨xc, hxc⟩ : ∃ xc, xc = x.cs := ⟨_, rfl⟩
    rw [← hyc] at hst dl dl0 dl3 HC
    rw [← hxc] at dlx HC
    have HYC := Lib.hid hyc
    clear hyc hxc
    cases hq : conB y x with
    | true =>
      rw [hq] at HC
      simp only [hq, if_true] at HSN
      go_wp2_with fail
      refine HC.out.mono ?_
      rintro e W4 ⟨rfl, hb4⟩
      have HB4 := Lib.hid (HB3.out.trans (hb4.mono HB3.out.size))
      have c40 := (hb4.cell (p := ⟨wr.heap.size, 0, none⟩) (block_lt_of_cell c30)).trans c30
      have HM4 := Lib.hid (amap_keep HMR.out (HB4.out.block _ (amap_lt HMR.out)))
      have HN4 := Lib.hid (HN.out.step_below HB4.out)
      clear hb4 c30 dl3 dlx dl dl0 hst
      go_wp2_with (refine wpList_aupdate rfl _ _ _ rfl keyInt Tryz.underlying108 HM4.out rfl y.unit rfl HIU.out () rfl ?_)
      intro W5 hm5 hg5 _
      have HM5 := Lib.hid (show amap W5 g (Value.int .i64) setV I64 (unM (fun y => conB y x) [] (O.take (j + 1))) by rw [HSN.out]; exact hm5)
      have HN5 := Lib.hid (HN4.out.grown hg5 (fun k hk => Or.inl (by rw [Option.some.inj hk.symm]; simp)))
      clear hm5 hg5
      go_wp2_with fail
      go_roundw
      case rel => exact ⟨j + 1, by omega, by go_num, HM5.out, HN5.out⟩
      case measure => (simp [intOf]) <;> omega
    | false =>
      rw [hq] at HC
      simp only [hq, Bool.false_eq_true, if_false] at HSN
      go_wp2_with fail
      refine HC.out.mono ?_
      rintro e W4 ⟨rfl, hb4⟩
      have HB4 := Lib.hid (HB3.out.trans (hb4.mono HB3.out.size))
      have HM4 := Lib.hid (show amap W4 g (Value.int .i64) setV I64 (unM (fun y => conB y x) [] (O.take (j + 1))) by rw [HSN.out]; exact amap_keep HMR.out (HB4.out.block _ (amap_lt HMR.out)))
      have HN4 := Lib.hid (HN.out.step_below HB4.out)
      clear hb4 c30 dl3 dlx dl dl0 hst
      go_wp2_with fail
      go_roundw
      case rel => exact ⟨j + 1, by omega, by go_num, HM4.out, HN4.out⟩
      case measure => (simp [intOf]) <;> omega
  · have hltI : ¬ (j : Int) < (O.length : Int) := by omega
    have HMD := Lib.hid (show amap wr g (Value.int .i64) setV I64 (unM (fun y => conB y x) [] O) by
     have := HMR.out
     rwa [List.take_of_length_le (by omega)] at this)
    obtain ⟨wo, hwo⟩ : ∃ wo, wo = wr := ⟨_, rfl⟩
    rw [← hwo] at HMD HN ⊢
    clear hmr hon HMR hwo k0
    obtain ⟨M0, hM0⟩ : ∃ M0, M0 = unM (fun y => conB y x) [] O := ⟨_, rfl⟩
    rw [← hM0] at HMD HF
    clear hM0 HHO
    go_wp2_with fail
    clear hltI hlt hj
    go_loopw [36] (fun t wr => ∃ j : Nat, j ≤ bl.length ∧ t = .int .i64 j ∧ amap wr g (Value.int .i64) setV I64 (unM (fun y => conB y x && !conL OW y) M0 (bl.take j)) ∧ Only [g] W2 wr) (fun t _ => bl.length - (intOf t).toNat)
    case atStart => exact ⟨0, by omega, rfl, HMD.out, HN.out⟩
    case round =>
     obtain ⟨j, hj, rfl, hmr, hon⟩ := hrel
     have HN := Lib.hid hon
     have HMR := Lib.hid hmr
     by_cases hlt : j < bl.length
     · have hltI : (j : Int) < (bl.length : Int) := by omega
       obtain ⟨b, off, rfl, hg, hat⟩ := (HLB2.out.only hon HBN.out).get hlt
       obtain ⟨W3, hst, hz3, hb3⟩ := put_lk wr bl[j]
       have dl0 := (hat.keep (box_below0 wr lkZ 60) hg).load
       have dl := hat.load
       have c30 := cell_at (i := 0) (v := .int .i64 bl[j].unit) hz3 rfl
       have dl3 := loadLk_at hz3 rfl
       have hzx := hon.heap HZ2.out HNX.out
       have dlx := loadLk_at (heap_below hb3 (lt_of_block hzx) hzx) rfl
       have HSN := Lib.hid (unM_snoc (fun y => conB y x && !conL OW y) M0 bl j hlt)
       have HC := Lib.hid (conflict_any bl[j] x W3)
       have HIU := Lib.hid (unit_i64 (HBO.out bl[j] (List.getElem_mem hlt)))
       have HLV := Lib.hid ((HL2.out.only hon HVB.out).below hb3)
       have HB3 := Lib.hid hb3
       have HZ3 := Lib.hid hz3
       have HCL := Lib.hid (fun (W : World) (hW : Below W3.heap.size W3 W) => conflicts_any W va vc OW bl[j] (((HL2.out.only hon HVB.out).below hb3).below hW) HOL.out)
       clear hon hmr hat hb3 hz3 hzx
       generalize bl[j] = y at hst HZ3 dl dl0 c30 dl3 HSN HC HIU HCL
       obtain ⟨yc, hyc⟩ : ∃ yc, yc = y.cs := ⟨_, rfl⟩
       obtain ⟨xc, hxc⟩ : ∃ xc, xc = x.cs := ⟨_, rfl⟩
       have HZ3' := Lib.hid (show W3.heap[wr.heap.size]? = some (.cells yc 60 (0, 0)) by rw [hyc]; exact HZ3.out)
       rw [← hyc] at hst dl dl0 dl3 HC HCL
       rw [← hxc] at dlx HC
       have HYC := Lib.hid (show yc.size = 6 by rw [hyc]; rfl)
       clear hyc hxc
       cases hq : conB y x with
       | true =>
         rw [hq] at HC
         generalize hq2 : conL OW y = q2 at HCL
         cases q2 with
         | true =>
           simp only [hq, hq2, Bool.not_true, Bool.and_false, Bool.false_eq_true, if_false] at HSN
           go_wp2_with fail
           refine HC.out.mono ?_
           rintro e W4 ⟨rfl, hb4⟩
           have HB4 := Lib.hid (HB3.out.trans (hb4.mono HB3.out.size))
           have dl4 := loadLk_at (heap_below hb4 (lt_of_block HZ3'.out) HZ3'.out) HYC.out
           have HC2 := Lib.hid (HCL.out W4 hb4)
           clear hb4 c30 dl3 dlx dl dl0 hst
           go_wp2_with fail
           refine HC2.out.mono ?_
           rintro e W5 ⟨rfl, hb5⟩
           have HB5 := Lib.hid (HB4.out.trans (hb5.mono HB4.out.size))
           have HM4 := Lib.hid (show amap W5 g (Value.int .i64) setV I64 (unM (fun y => conB y x && !conL OW y) M0 (bl.take (j + 1))) by rw [HSN.out]; exact amap_keep HMR.out (HB5.out.block _ (amap_lt HMR.out)))
           have HN4 := Lib.hid (HN.out.step_below HB5.out)
           clear hb5 dl4
           go_wp2_with fail
           go_roundw
           case rel => exact ⟨j + 1, by omega, by go_num, HM4.out, HN4.out⟩
           case measure => (simp [intOf]) <;> omega
         | false =>
           simp only [hq, hq2, Bool.not_false, Bool.and_true, if_true] at HSN
           go_wp2_with fail
           refine HC.out.mono ?_
           rintro e W4 ⟨rfl, hb4⟩
           have HB4 := Lib.hid (HB3.out.trans (hb4.mono HB3.out.size))
           have dl4 := loadLk_at (heap_below hb4 (lt_of_block HZ3'.out) HZ3'.out) HYC.out
           have HC2 := Lib.hid (HCL.out W4 hb4)
           have HC40 := Lib.hid ((hb4.cell (p := ⟨wr.heap.size, 0, none⟩) (block_lt_of_cell c30)).trans c30)
           clear hb4 c30 dl3 dlx dl dl0 hst
           go_wp2_with fail
           refine HC2.out.mono ?_
           rintro e W5 ⟨rfl, hb5⟩
           have HB5 := Lib.hid (HB4.out.trans (hb5.mono HB4.out.size))
           have c50 := (hb5.cell (p := ⟨wr.heap.size, 0, none⟩) (block_lt_of_cell HC40.out)).trans HC40.out
           have HM4 := Lib.hid (amap_keep HMR.out (HB5.out.block _ (amap_lt HMR.out)))
           have HN4 := Lib.hid (HN.out.step_below HB5.out)
           clear hb5 dl4
           go_wp2_with (refine wpList_aupdate rfl _ _ _ rfl keyInt Tryz.underlying108 HM4.out rfl y.unit rfl HIU.out () rfl ?_)
           intro W6 hm5 hg5 _
           have HM5 := Lib.hid (show amap W6 g (Value.int .i64) setV I64 (unM (fun y => conB y x && !conL OW y) M0 (bl.take (j + 1))) by rw [HSN.out]; exact hm5)
           have HN5 := Lib.hid (HN4.out.grown hg5 (fun k hk => Or.inl (by rw [Option.some.inj hk.symm]; simp)))
           clear hm5 hg5
           go_wp2_with fail
           go_roundw
           case rel => exact ⟨j + 1, by omega, by go_num, HM5.out, HN5.out⟩
           case measure => (simp [intOf]) <;> omega
       | false =>
         rw [hq] at HC
         simp only [hq, Bool.false_and, Bool.false_eq_true, if_false] at HSN
         go_wp2_with fail
         refine HC.out.mono ?_
         rintro e W4 ⟨rfl, hb4⟩
         have HB4 := Lib.hid (HB3.out.trans (hb4.mono HB3.out.size))
         have HM4 := Lib.hid (show amap W4 g (Value.int .i64) setV I64 (unM (fun y => conB y x && !conL OW y) M0 (bl.take (j + 1))) by rw [HSN.out]; exact amap_keep HMR.out (HB4.out.block _ (amap_lt HMR.out)))
         have HN4 := Lib.hid (HN.out.step_below HB4.out)
         clear hb4 c30 dl3 dlx dl dl0 hst
         go_wp2_with fail
         go_roundw
         case rel => exact ⟨j + 1, by omega, by go_num, HM4.out, HN4.out⟩
         case measure => (simp [intOf]) <;> omega
     · have hltI : ¬ (j : Int) < (bl.length : Int) := by omega
       have HMD := Lib.hid (show amap wr g (Value.int .i64) setV I64 R by
        have := HMR.out
        rwa [List.take_of_length_le (by omega), ← HF.out] at this)
       clear hmr hon HMR
       go_wp2_with fail
       go_ret
       exact ⟨g, rfl, HGG.out, HMD.out, HB2.out.trans (HN.out.below HB2.out.size (fun x hx => by rw [List.mem_singleton] at hx; rw [hx]; exact HGG.out))⟩
end
end

section
set_option maxRecDepth 100000
set_option maxHeartbeats 4000000
set_option linter.unusedSimpArgs false
set_option linter.unusedVariables false
open Go.RowKit Go.Sort
theorem amap_len {κ ν : Type} {P : Program} {K T E : TypeId} {kv : κ → Value} {vv : ν → Value} {ok : κ → Prop} {w : World} {b : Nat} {m : List (κ × ν)} (hT : P.underlying T = some (.map K E)) (h : amap w b kv vv ok m) (ty : TypeId) : (Builtin.len_ #[T] ty #[.map (some b)]).run P w = .ok (.int .i64 m.length) w := by
 obtain ⟨es, cl, hb, h1, _⟩ := h
 have : es.size = m.length := by
  have := congrArg List.length h1
  simpa using this
 rw [← this]
 simp [Builtin.len_, run_underlying hT, MapKept.run_getObj_map hb, goInt]
theorem run_range_nil {P : Program} {T K E : TypeId} (hT : P.underlying T = some (.map K E)) (w : World) : (Instr.range T (.map none)).run P w = .ok (.pointer (some ⟨w.heap.size, 0, none⟩)) (w.alloc (.mapIter none 0 #[] 0)) := by
 simp [Instr.range, run_underlying hT, Result.andThen]
theorem run_next_nil {P : Program} {w : World} {r : Nat} (hr : w.heap[r]? = some (.mapIter none 0 #[] 0)) (ty : TypeId) : (Instr.next (.pointer (some ⟨r, 0, none⟩)) false ty).run P w = .ok (.tuple #[.bool false]) w := by
 simp [Instr.next, getObj, Sem.run, hr, Result.andThen]
section
attribute [local go_sem ↓] loadLk_down storeLk_down
theorem waitsfor_w (w : World) (k : Mk) (L : Ls) (u : Int) (h : MgIn w k L) (hq : L.queue = []) :
 Calls Tryz.prog 292 #[.pointer (some ⟨k.p, 0, none⟩), .int .i64 u] w fun e w' => e = .returned (.map none) ∧ Below w.heap.size w w' := by
 have HW := Lib.hid (waiting_w w k L u h)
 rw [hq] at HW
 simp only [idxL, idxV] at HW
 clear h
 go_enter Tryz.func292, Tryz.ntmps292
 go_wp2_with fail
 refine HW.out.mono ?_
 rintro e w2 ⟨rfl, hb2⟩
 have HB2 := Lib.hid hb2
 clear hb2
 go_wp2_with fail
 go_ret
 exact ⟨rfl, HB2.out⟩
theorem reach1_w (w : World) (k : Mk) (L : Ls) (n u : Int) (gu gs gm gf sb : Nat) (m : List (Int × Unit)) (fv : Value) (h : MgIn w k L) (hq : L.queue = []) (hn : n ≠ u) (hi : I64 n)
 (hu : w.cell? ⟨gu, 0, none⟩ = some (.int .i64 u)) (hs : w.cell? ⟨gs, 0, none⟩ = some (.map (some sb))) (hm : w.cell? ⟨gm, 0, none⟩ = some (.pointer (some ⟨k.p, 0, none⟩))) (hf : w.cell? ⟨gf, 0, none⟩ = some fv)
 (ha : amap w sb (Value.int .i64) setV I64 m) (hk : sb ∉ k.m) (hss : sb ≠ gs ∧ sb ≠ gu ∧ sb ≠ gm) :
 Calls Tryz.prog 291 #[.int .i64 n, .pointer (some ⟨gu, 0, none⟩), .pointer (some ⟨gs, 0, none⟩), .pointer (some ⟨gm, 0, none⟩), .pointer (some ⟨gf, 0, none⟩)] w fun e w' => e = .returned (.bool false) ∧ (∃ m', amap w' sb (Value.int .i64) setV I64 m') ∧ Only [sb] w w' := by
 have hne : (n == u) = false := by simpa using hn
 have HA := Lib.hid ha
 have HK := Lib.hid h
 have HKN := Lib.hid hk
 have HI := Lib.hid hi
 have HSS := Lib.hid hss
 have HMC := Lib.hid hm
 have hlk := amap_lookup (P := Tryz.prog) keyInt Tryz.underlying108 ha hi (z := .bool false) (w := w) (by kernel_rfl)
 obtain ⟨q, hq2⟩ : ∃ q, ((alook m n).map setV).getD (.bool false) = .bool q := by cases alook m n <;> exact ⟨_, rfl⟩
 rw [hq2] at hlk
 have HQE := Lib.hid hq
 clear ha h hk hi hss hn hf hq2 hq
 cases q with
 | true =>
   go_enter Tryz.func291, Tryz.ntmps291
   go_wp2_with fail
   go_ret
   exact ⟨rfl, ⟨m, HA.out⟩, Only.refl _ _⟩
 | false =>
   go_enter Tryz.func291, Tryz.ntmps291
   go_wp2_with (refine wpList_aupdate rfl _ _ _ rfl keyInt Tryz.underlying108 HA.out rfl n rfl HI.out () rfl ?_)
   intro W5 hm5 hg5 _
   have HM5 := Lib.hid hm5
   have ho5 := (Only.refl [sb] w).grown hg5 (fun k hk => Or.inl (by rw [Option.some.inj hk.symm]; simp))
   have HO5 := Lib.hid ho5
   have hm2 : W5.cell? ⟨gm, 0, none⟩ = some (.pointer (some ⟨k.p, 0, none⟩)) := (ho5.cell (p := ⟨gm, 0, none⟩) (block_lt_of_cell HMC.out) (by rw [List.mem_singleton]; exact fun e => HSS.out.2.2 e.symm)).trans HMC.out
   have HW := Lib.hid (waitsfor_w W5 k L n (HK.out.only ho5 (fun x hx hm => HKN.out (by rw [List.mem_singleton] at hm; rw [← hm]; exact hx))) HQE.out)
   clear hm5 hg5 ho5 hm hlk hu hs
   go_wp2_with fail
   refine HW.out.mono ?_
   rintro e W6 ⟨rfl, hb6⟩
   have hrn := run_range_nil (P := Tryz.prog) Tryz.underlying108 W6
   have hnx := fun ty => run_next_nil (P := Tryz.prog) (heap_alloc_new W6 (.mapIter none 0 #[] 0)) ty
   have HBI := Lib.hid ((Below.refl _ W6).alloc (Nat.le_refl _) (.mapIter none 0 #[] 0))
   have HO6 := Lib.hid (HO5.out.step_below (hb6.trans (HBI.out.mono hb6.size)))
   have HM6 := Lib.hid (amap_keep HM5.out ((hb6.trans (HBI.out.mono hb6.size)).block _ (amap_lt HM5.out)))
   clear hb6 hm2
   go_wp2_with fail
   go_loopw [20] (fun _ wr => wr = W6.alloc (.mapIter none 0 #[] 0)) (fun _ _ => 0)
   case atStart => exact rfl
   case round =>
    obtain rfl := hrel
    go_wp2_with fail
    go_ret
    exact ⟨rfl, ⟨_, HM6.out⟩, HO6.out⟩
end
end

end Go.Proofs.YtcefkngblddpoaaGreatDoor

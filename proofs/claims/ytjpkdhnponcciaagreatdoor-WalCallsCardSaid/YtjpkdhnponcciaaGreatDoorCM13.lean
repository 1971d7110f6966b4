/-
  Walks: the state of the law of calls: the log beside the reference. Condition: acts in memory, few and small.
-/
import Derived.Test.YtjpkdhnponcciaaGreatDoorCM12
namespace Go.Proofs.YtjpkdhnponcciaaGreatDoor
open Go.RowKit Go.Sort

/-- The log beside the reference's state in block sb. -/
structure CalSt (w : World) (lb : Nat) (ka kb : Bk) (n sb : Nat) (h : Hw) (R : List Rc) (f x : Int) (a : Option Addr) (cap : Nat) (L : List Lr) (W : World) : Prop where
  st : LawSt w lb ka kb n h R W
  row : W.heap[sb]? = some (.cells (rsC ((n : Int) - 1) f x a L.length cap) 31 (0, 0))
  recs : RecsF W (sb :: (ka.s ++ kb.s)) a L
  nil : a = none → cap = 0
  sbn : sb ∉ ka.s ++ kb.s ∧ sb ≠ lb ∧ w.heap.size ≤ sb
theorem LawSt.only {w W W' : World} {lb : Nat} {ka kb : Bk} {n : Nat} {h : Hw} {R : List Rc} (s : LawSt w lb ka kb n h R W) {sb : Nat} (hs : sb ∉ ka.s ++ kb.s ∧ sb ≠ lb ∧ w.heap.size ≤ sb) (ho : Only [sb] W W') : LawSt w lb ka kb n h R W' := by
  obtain ⟨A, B, hL, L⟩ := s.ex
  have hn : ∀ x, x ∈ ka.s ∨ x ∈ kb.s → x ∉ [sb] := fun x hx hm => hs.1 (by rw [List.mem_singleton] at hm; subst hm; exact List.mem_append.2 hx)
  refine ⟨⟨A, B, ⟨ho.heap hL.row (fun hm => hs.2.1 (List.mem_singleton.1 hm).symm), hL.a.only ho (fun x hx => hn x (Or.inl hx)), hL.b.only ho (fun x hx => hn x (Or.inr hx)), hL.dis, fun x hx => Nat.lt_of_lt_of_le (hL.lt x hx) ho.size, hL.lbn⟩, L⟩, s.n, s.bel.trans (ho.below s.bel.size (fun x hx => by rw [List.mem_singleton] at hx; omega)), s.lo⟩
theorem CalSt.below {w W W' : World} {lb : Nat} {ka kb : Bk} {n sb : Nat} {h : Hw} {R : List Rc} {f x : Int} {a : Option Addr} {cap : Nat} {L : List Lr} (s : CalSt w lb ka kb n sb h R f x a cap L W) (hb : Below W.heap.size W W') : CalSt w lb ka kb n sb h R f x a cap L W' :=
  ⟨s.st.below hb, heap_below hb (lt_of_block s.row) s.row, s.recs.below hb, s.nil, s.sbn⟩
/-- The log has taken a step. -/
theorem CalSt.step {w W W' : World} {lb : Nat} {ka kb : Bk} {n sb : Nat} {h g : Hw} {R S : List Rc} {f x : Int} {a : Option Addr} {cap : Nat} {L : List Lr} (s : CalSt w lb ka kb n sb h R f x a cap L W) (t : LawSt w lb ka kb n g S W') (ho : Only (ka.s ++ kb.s) W W') : CalSt w lb ka kb n sb g S f x a cap L W' :=
  ⟨t, ho.heap s.row s.sbn.1, s.recs.only (ho.mono (fun _k hk _ => List.mem_cons_of_mem _ hk)), s.nil, s.sbn⟩
/-- The reference has taken a step: its state is laid anew. -/
theorem CalSt.put {w W : World} {lb : Nat} {ka kb : Bk} {n sb : Nat} {h : Hw} {R : List Rc} {f x : Int} {a : Option Addr} {cap : Nat} {L : List Lr} (s : CalSt w lb ka kb n sb h R f x a cap L W) {f' x' : Int} {a' : Option Addr} {cap' : Nat} {X : List Lr} (hX : RecsF W (sb :: (ka.s ++ kb.s)) a' X) (hn : a' = none → cap' = 0) :
    (storeRs ⟨sb, 0, none⟩ (.agg (rsC ((n : Int) - 1) f' x' a' X.length cap'))).run Tryz.prog W = .ok () (W.setRow sb (rsC ((n : Int) - 1) f' x' a' X.length cap')) ∧ CalSt w lb ka kb n sb h R f' x' a' cap' X (W.setRow sb (rsC ((n : Int) - 1) f' x' a' X.length cap')) ∧ Only [sb] W (W.setRow sb (rsC ((n : Int) - 1) f' x' a' X.length cap')) := by
  have ho : Only [sb] W (W.setRow sb (rsC ((n : Int) - 1) f' x' a' X.length cap')) := (Only.refl _ _).setRow (Or.inl (by simp)) _
  exact ⟨storeRs_at s.row rfl rfl (by simp [Value.oneCell']), ⟨s.st.only s.sbn ho, setRow_heap _ _ _ _ _ _ s.row, hX.only (ho.mono (fun k hk _ => by rw [List.mem_singleton] at hk; simp [hk])), hn, s.sbn⟩, ho⟩
/-- What is free. -/
theorem free_ref {h : Hw} {R : List Rc} (ok : LgOk h R) : (h.n : Int) - 1 - (sumC R : Int) = (h.free : Int) := by
  rw [sumC_room, Hw.free]
  have := ok.used
  have := ok.ok.used
  have := ok.ok.n
  omega
/-- Append: what the reference says is what the log says. -/
theorem app_ref {h g : Hw} {R S : List Rc} {u : Int} {l : List Ch} {n er : Int} (ok : LgOk h R) (hd : (n, er) = (if (Rc.mk h.next u l).sound = false then (0, 1) else if 16384 < (Rc.mk h.next u l).b.length then (0, 8) else if h.free < cntW (Rc.mk h.next u l).b.length then (0, 14) else ((h.next : Int), 0)))
    (he : (g, S) = (if (Rc.mk h.next u l).valid = true ∧ cntW (Rc.mk h.next u l).b.length ≤ h.free then (h.more ⟨h.next, u, l⟩, R ++ [⟨h.next, u, l⟩]) else (h, R))) :
    AppV h.next ((h.n : Int) - 1 - (sumC R : Int)) R u l = (((g.next : Int), S), n, er) := by
  rw [free_ref ok]
  obtain ⟨hr1, hr2⟩ := Ref.append (s := ⟨(h.n : Int) - 1, h.first, h.next, R⟩) rfl ok he
  rw [← hd] at hr2
  have hf := Ref.free (s := ⟨(h.n : Int) - 1, h.first, h.next, R⟩) rfl ok
  unfold Rs.append at hr1 hr2
  rw [hf] at hr1 hr2
  unfold AppV
  simp only at hr1 hr2 ⊢
  split at hr1 <;> rename_i q1
  · rw [if_pos q1] at hr2 ⊢
    simp only [Ref, Rs.mk.injEq] at hr1 hr2
    rw [hr1.2.2.1, hr1.2.2.2, hr2]
  · rw [if_neg q1] at hr2 ⊢
    split at hr1 <;> rename_i q2
    · rw [if_pos q2] at hr2 ⊢
      simp only [Ref, Rs.mk.injEq] at hr1 hr2
      rw [hr1.2.2.1, hr1.2.2.2, hr2]
    · rw [if_neg q2] at hr2 ⊢
      split at hr1 <;> rename_i q3
      · rw [if_pos q3] at hr2 ⊢
        simp only [Ref, Rs.mk.injEq] at hr1 hr2
        rw [hr1.2.2.1, hr1.2.2.2, hr2]
      · rw [if_neg q3] at hr2 ⊢
        simp only [Ref, Rs.mk.injEq] at hr1 hr2
        rw [hr1.2.2.1, hr1.2.2.2, hr2]
/-- Trim: what the reference keeps is what the log keeps. -/
theorem trim_ref {h g : Hw} {R : List Rc} {L : List Lr} {u : Int} (ok : LgOk h R) (okg : LgOk g (R.dropWhile fun r => decide (r.last ≤ u))) (hx : g.next = h.next) (hL : L.map Lr.rc = R) :
    (filtL (gtP u) L).map Lr.rc = R.dropWhile (fun r => decide (r.last ≤ u)) ∧ firstOf h.next (filtL (gtP u) L) = g.first := by
  have e1 : (filtL (gtP u) L).map Lr.rc = R.dropWhile (fun r => decide (r.last ≤ u)) := by rw [filtL_map, hL, drop_filter u ok.chain]
  refine ⟨e1, ?_⟩
  rw [← e1] at okg
  have hf := chain_first okg.chain
  have hc := okg.chain
  generalize filtL (gtP u) L = X at hf hc ⊢
  match X, hf, hc with
  | [], hf, _ => simp only [List.map_nil] at hf; show (h.next : Int) = g.first; rw [hf, hx]
  | r :: l, hf, hc =>
    have := (Rc.valid_num hc.1).1
    simp only [List.map_cons] at hf
    show r.num = (g.first : Int)
    have e2 : r.rc.num = r.num := rfl
    omega
end Go.Proofs.YtjpkdhnponcciaaGreatDoor

/-
  Walks: what the reference does beside the log. Condition: both stand alike.
-/
import Derived.Test.YtjpkdhnponcciaaGreatDoorCM13
namespace Go.Proofs.YtjpkdhnponcciaaGreatDoor
open Go.RowKit Go.Sort

theorem chain_valid : ∀ {l : List Rc} {a b : Nat}, Chain a l b → ∀ r ∈ l, r.valid = true
  | [], _, _, _, r, hr => by cases hr
  | x :: l, a, b, h, r, hr => by
    rcases List.mem_cons.1 hr with rfl | hr
    · exact h.1
    · exact chain_valid h.2.2 r hr
/-- What the reference's functions ask. -/
theorem ref_pre {h : Hw} {R : List Rc} (ok : LgOk h R) {L : List Lr} (hL : L.map Lr.rc = R) : (∀ x ∈ L, x.rc.valid = true) ∧ L.length ≤ 4096 ∧ sumC (L.map Lr.rc) ≤ 1000000 ∧ (0 ≤ (h.n : Int) - 1 ∧ (h.n : Int) - 1 ≤ 1000000) ∧ (0 ≤ (h.next : Int) ∧ (h.next : Int) ≤ 1099511627777) := by
  refine ⟨fun x hx => chain_valid ok.chain _ (by rw [← hL]; exact List.mem_map_of_mem hx), ?_, ?_, ?_, ?_⟩
  · have := ok.len
    rw [← hL, List.length_map] at this
    omega
  · rw [hL, sumC_room]
    have := ok.used
    have := ok.ok.used
    have := ok.ok.n
    omega
  · have := ok.ok.n; omega
  · have := ok.ok.next; omega
theorem CalSt.lt {w W : World} {lb : Nat} {ka kb : Bk} {n sb : Nat} {h : Hw} {R : List Rc} {f x : Int} {a : Option Addr} {cap : Nat} {L : List Lr} (s : CalSt w lb ka kb n sb h R f x a cap L W) : ∀ y ∈ sb :: (ka.s ++ kb.s), y < W.heap.size := fun y hy => by
  rcases List.mem_cons.1 hy with rfl | hy
  · exact lt_of_block s.row
  · exact s.st.lt y hy
/-- The reference's next state, as a value. -/
def RefE (w : World) (F : List Nat) (n : Nat) (g : Hw) (S : List Rc) (v : Value) (w' : World) : Prop := ∃ a' cap' X, v = .agg (rsC ((n : Int) - 1) g.first g.next a' X.length cap') ∧ X.map Lr.rc = S ∧ RecsF w' F a' X ∧ (a' = none → cap' = 0) ∧ Below w.heap.size w w'
section
variable {w W : World} {lb : Nat} {ka kb : Bk} {n sb : Nat} {h g : Hw} {R S : List Rc} {a : Option Addr} {cap : Nat} {L : List Lr}
theorem ctrim_l (s : CalSt w lb ka kb n sb g S h.first h.next a cap L W) (ok : LgOk h R) (hL : L.map Lr.rc = R) (u : Int) (hS : S = R.dropWhile (fun r => decide (r.last ≤ u))) (hx : g.next = h.next) :
    Calls Tryz.prog 16 #[.agg (rsC ((n : Int) - 1) h.first h.next a L.length cap), .int .i64 u] W fun e w' => ∃ v, e = .returned v ∧ RefE W (sb :: (ka.s ++ kb.s)) n g S v w' := by
  obtain ⟨p1, p2, p3, p4, p5⟩ := ref_pre ok hL
  refine (rtrim_w W _ _ _ _ u a cap L s.recs s.lt p1 (by omega)).mono ?_
  rintro e w' ⟨a', cap', rfl, hr, hb, hn⟩
  have okg := s.st.ok
  rw [hS] at okg
  obtain ⟨e1, e2⟩ := trim_ref ok okg hx hL
  exact ⟨_, rfl, a', cap', _, by rw [e2, hx], by rw [e1, hS], hr, hn, hb⟩
theorem capp_l (s : CalSt w lb ka kb n sb g S h.first h.next a cap L W) (ok : LgOk h R) (hL : L.map Lr.rc = R) (hn : h.n = n) (u : Int) (ca : Option Addr) (ccap : Nat) (l : List Ch) (hC : ChsF W (sb :: (ka.s ++ kb.s)) ca l) (hcn : ca = none → ccap = 0) (hll : l.length ≤ 100000) (hc : ∀ c ∈ l, ChLen c) (m er : Int) (hf : g.first = h.first)
    (hd : (m, er) = (if (Rc.mk h.next u l).sound = false then (0, 1) else if 16384 < (Rc.mk h.next u l).b.length then (0, 8) else if h.free < cntW (Rc.mk h.next u l).b.length then (0, 14) else ((h.next : Int), 0)))
    (he : (g, S) = (if (Rc.mk h.next u l).valid = true ∧ cntW (Rc.mk h.next u l).b.length ≤ h.free then (h.more ⟨h.next, u, l⟩, R ++ [⟨h.next, u, l⟩]) else (h, R))) :
    Calls Tryz.prog 18 #[.agg (rsC ((n : Int) - 1) h.first h.next a L.length cap), .int .i64 u, .slice ca l.length ccap] W fun e w' => ∃ v, e = .returned (.tuple #[v, .int .i64 m, .int .i64 er]) ∧ RefE W (sb :: (ka.s ++ kb.s)) n g S v w' := by
  obtain ⟨p1, p2, p3, p4, p5⟩ := ref_pre ok hL
  subst hn
  refine (rappend_w W _ _ _ _ u a cap L ca ccap l s.recs s.nil hC hcn s.lt p1 (by omega) hll hc p4 p3 p5).mono ?_
  rintro e w' ⟨a', cap', X, rfl, hX, hr, hn, hb⟩
  rw [hL, app_ref ok hd he] at hX ⊢
  exact ⟨_, rfl, a', cap', X, by rw [hf], hX, hr, hn, hb⟩
theorem cread_l (s : CalSt w lb ka kb n sb g S h.first h.next a cap L W) (ok : LgOk h R) (hL : L.map Lr.rc = R) (u er : Int) (X : List Rc) (he : er = (if max u 1 < (h.first : Int) then 18 else 0)) (hX : X = (if max u 1 < (h.first : Int) then [] else keepR u R)) :
    Calls Tryz.prog 17 #[.agg (rsC ((n : Int) - 1) h.first h.next a L.length cap), .int .i64 u] W fun e w' => ∃ a' cap' Z, e = .returned (.tuple #[.slice a' Z.length cap', .int .i64 er]) ∧ Z.map Lr.rc = X ∧ RecsF w' (sb :: (ka.s ++ kb.s)) a' Z ∧ Below W.heap.size W w' := by
  obtain ⟨p1, p2, p3, p4, p5⟩ := ref_pre ok hL
  refine (rread_w W _ _ _ _ u a cap L s.recs s.lt p1 (by omega)).mono ?_
  rintro e w' ⟨a', cap', Z, er', rfl, hZ, hr, hb⟩
  have h2 : er' = er ∧ Z.map Lr.rc = X := by
    rw [he, hX]
    split at hZ <;> rename_i q
    · cases hZ; rw [if_pos q, if_pos q]; exact ⟨rfl, rfl⟩
    · cases hZ; rw [if_neg q, if_neg q]; exact ⟨rfl, by rw [filtL_map, hL]; rfl⟩
  obtain ⟨rfl, h3⟩ := h2
  exact ⟨a', cap', Z, rfl, h3, hr, hb⟩
/-- What is free by the reference is what the log says. -/
theorem cfree_l (s : CalSt w lb ka kb n sb g S g.first g.next a cap L W) (hL : L.map Lr.rc = S) :
    Calls Tryz.prog 21 #[.agg (rsC ((n : Int) - 1) g.first g.next a L.length cap)] W fun e w' => e = .returned (.int .i64 g.free) ∧ Below W.heap.size W w' := by
  obtain ⟨p1, p2, p3, p4, p5⟩ := ref_pre s.st.ok hL
  have hn := s.st.n
  subst hn
  refine (rfree_w W _ _ _ a cap L s.recs.at' p1 p4 p3 (by omega)).mono ?_
  rintro e w' ⟨rfl, hb⟩
  rw [hL, free_ref s.st.ok]
  exact ⟨rfl, hb⟩
end
end Go.Proofs.YtjpkdhnponcciaaGreatDoor

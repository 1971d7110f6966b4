/-
  Plain: an act by its kind; the comparison of records. No condition.
-/
import Derived.Test.YtjpkdhnponcciaaGreatDoorCM14
namespace Go.Proofs.YtjpkdhnponcciaaGreatDoor
open Go.RowKit Go.Sort

theorem wrap_mod3 (kind : Int) : IntKind.i64.wrap (kind.tmod 3) = kind.tmod 3 := by
  have h1 := Int.tmod_lt_of_pos kind (show (0 : Int) < 3 by omega)
  have h2 : -3 < kind.tmod 3 := by
    rcases Int.le_total 0 kind with h | h
    · have := Int.tmod_nonneg 3 h; omega
    · have e : kind.tmod 3 = -((-kind).tmod 3) := by rw [Int.neg_tmod]; omega
      have := Int.tmod_lt_of_pos (-kind) (show (0 : Int) < 3 by omega)
      omega
  exact IntWalk.i64_in _ (by omega)
theorem dor_trim {h g : Hw} {R S X : List Rc} {x : AcV} {n er : Int} (h1 : x.kind.tmod 3 = 1) (hd : DoR h R x g S n X er) : n = 0 ∧ X = [] ∧ er = 0 ∧ S = R.dropWhile (fun r => decide (r.last ≤ x.n)) ∧ g.n = h.n ∧ g.next = h.next := by
  rcases hd with ⟨_, a, b, c, d, e, f⟩ | ⟨h2, _⟩ | ⟨h2, _⟩
  · exact ⟨a, b, c, d, e, f⟩
  · omega
  · exact absurd h1 h2
theorem dor_read {h g : Hw} {R S X : List Rc} {x : AcV} {n er : Int} (h1 : x.kind.tmod 3 = 2) (hd : DoR h R x g S n X er) : n = 0 ∧ g = h ∧ S = R ∧ er = (if max x.n 1 < (h.first : Int) then 18 else 0) ∧ X = (if max x.n 1 < (h.first : Int) then [] else keepR x.n R) := by
  rcases hd with ⟨h2, _⟩ | ⟨_, a, b, c, d, e⟩ | ⟨_, h2, _⟩
  · omega
  · exact ⟨a, b, c, d, e⟩
  · exact absurd h1 h2
theorem dor_app {h g : Hw} {R S X : List Rc} {x : AcV} {n er : Int} (h1 : ¬ x.kind.tmod 3 = 1) (h2 : ¬ x.kind.tmod 3 = 2) (hd : DoR h R x g S n X er) : X = [] ∧ (n, er) = (if (Rc.mk h.next x.unit x.l).sound = false then (0, 1) else if 16384 < (Rc.mk h.next x.unit x.l).b.length then (0, 8) else if h.free < cntW (Rc.mk h.next x.unit x.l).b.length then (0, 14) else ((h.next : Int), 0)) ∧ g.n = h.n ∧ g.first = h.first ∧
    (g, S) = (if (Rc.mk h.next x.unit x.l).valid = true ∧ cntW (Rc.mk h.next x.unit x.l).b.length ≤ h.free then (h.more ⟨h.next, x.unit, x.l⟩, R ++ [⟨h.next, x.unit, x.l⟩]) else (h, R)) := by
  rcases hd with ⟨h3, _⟩ | ⟨h3, _⟩ | ⟨_, _, a, b, c, d, e⟩
  · exact absurd h3 h1
  · exact absurd h3 h2
  · exact ⟨a, b, c, d, e⟩
theorem CalSt.ge {w W : World} {lb : Nat} {ka kb : Bk} {n sb : Nat} {h : Hw} {R : List Rc} {f x : Int} {a : Option Addr} {cap : Nat} {L : List Lr} (s : CalSt w lb ka kb n sb h R f x a cap L W) : ∀ y ∈ sb :: (ka.s ++ kb.s), w.heap.size ≤ y := fun y hy => by
  rcases List.mem_cons.1 hy with rfl | hy
  · exact s.sbn.2.2
  · exact s.st.lo.1 y (List.mem_append.1 hy)
theorem few_len {m : Nat} {l : List AcV} (hf : fewA m l = true) : ∀ x ∈ l, x.l.length ≤ 100000 := by
  unfold fewA at hf
  rw [Bool.and_eq_true, decide_eq_true_eq, List.all_eq_true] at hf
  intro x hx
  have h1 := fewR_iff.1 (hf.2 x hx)
  omega
/-- What is read of a log: few records, each small. -/
theorem keep_ok {h : Hw} {R : List Rc} (ok : LgOk h R) {X : List Lr} {u : Int} {c : Prop} [Decidable c] (hX : X.map Lr.rc = (if c then [] else keepR u R)) : X.length ≤ 1000000 ∧ ∀ x ∈ X, x.l.length ≤ 1000000 := by
  have hm : ∀ r ∈ X.map Lr.rc, r ∈ R := fun r hr => by
    rw [hX] at hr
    split at hr
    · cases hr
    · exact (List.mem_filter.1 hr).1
  refine ⟨?_, fun x hx => ?_⟩
  · have h1 : (X.map Lr.rc).length ≤ R.length := by
      rw [hX]
      split
      · simp
      · exact List.length_filter_le _ _
    rw [List.length_map] at h1
    have := ok.len
    omega
  · have h1 := (Rc.valid_num (chain_valid ok.chain _ (hm _ (List.mem_map_of_mem hx)))).2
    have h2 : x.rc.l = x.l := rfl
    rw [h2] at h1
    omega
theorem recs_same (w : World) (a b : Option Addr) (c d : Nat) (l m : List Lr) (ha : Recs w w.heap.size a l) (hb : Recs w w.heap.size b m) (hl : l.length ≤ 1000000) (hcl : ∀ x ∈ l, x.l.length ≤ 1000000) (he : l.map Lr.rc = m.map Lr.rc) :
    Calls Tryz.prog 20 #[.slice a l.length c, .slice b m.length d] w fun e w' => e = .returned (.bool true) ∧ Below w.heap.size w w' := by
  have hlm : l.length = m.length := by rw [← List.length_map (f := Lr.rc), he, List.length_map]
  refine (records_any w a b c d l m ha hb hl (by omega) hcl (fun x hx => ?_)).mono ?_
  · have h1 : x.rc ∈ l.map Lr.rc := by rw [he]; exact List.mem_map_of_mem hx
    obtain ⟨y, hy, e⟩ := List.mem_map.1 h1
    have := hcl y hy
    have e2 : y.rc.l = x.rc.l := by rw [e]
    have e3 : y.l = x.l := e2
    rw [← e3]; exact this
  · rintro e w' ⟨rfl, hb⟩
    exact ⟨by rw [(eqRcs_iff _ _).2 he], hb⟩
end Go.Proofs.YtjpkdhnponcciaaGreatDoor

/-
  Plain mathematics of the log: an append that ends at any write; a copy of which sectors cannot be read. No walk, no condition.
-/
import Derived.Test.YtjpkdhnponcciaaGreatDoorCBP9
namespace Go.Proofs.YtjpkdhnponcciaaGreatDoor
open Go.RowKit Go.Sort

/-! ### A fuse -/
def Mm.lit (M : Mm) (f : Int) : Mm := { M with fuse := f }
theorem CpIs.lit {h : Hw} {R : List Rc} {M : Mm} (hm : CpIs h R M) (f : Int) : CpIs h R (M.lit f) := ⟨hm.len, hm.head, hm.body⟩
theorem Clean.lit {M : Mm} (hm : Clean M) (f : Int) : Clean (M.lit f) := hm
theorem Full.lit {M : Mm} (hm : Full M) (f : Int) : Full (M.lit f) := hm
theorem begin_same {M N : Mm} {h : Hw} {R : List Rc} (ok : HwOk h) (hM : CpIs h R M) (hN : CpIs h R N) (bM : M.bad 0 = false) (bN : N.bad 0 = false) : beginV (some M) (some N) = ⟨h, 0, some M, some N⟩ := by
  unfold beginV
  rw [if_neg (by simp), hdC_is hM ok bM, hdC_is hN ok bN]
  simp [newer_irr]
theorem more_newer {h : Hw} {r : Rc} (hv : r.valid = true) (hn : r.num = (h.next : Int)) : (h.more r).newer h = true := by
  have h1 := Rc.last_eq hv
  have h2 := Rc.valid_num hv
  unfold Hw.newer
  exact decide_eq_true (Or.inl (show h.next < r.last.toNat + 1 by omega))
/-- An append that may end at any write: the copies behind it. -/
theorem crash_app {M N : Mm} {h : Hw} {R : List Rc} (ok : LgOk h R) (hM : CpIs h R M) (hN : CpIs h R N) (cM : Clean M) (cN : Clean N) (unit : Int) (l : List Ch) :
    ∃ M' N' m e, appendV (some M) (some N) unit l = ((m, e), some M', some N') ∧ Clean M' ∧ Clean N' ∧ M'.secs.length = M.secs.length ∧ N'.secs.length = N.secs.length ∧
      ((e ≠ 0 ∧ CpIs h R M' ∧ CpIs h R N') ∨
       ((Rc.mk h.next unit l).valid = true ∧ cntW (Rc.mk h.next unit l).b.length ≤ h.free ∧ CpIs (h.more ⟨h.next, unit, l⟩) (R ++ [⟨h.next, unit, l⟩]) M' ∧
         ((e ≠ 0 ∧ CpIs h R N') ∨ (e = 0 ∧ m = (h.next : Int) ∧ CpIs (h.more ⟨h.next, unit, l⟩) (R ++ [⟨h.next, unit, l⟩]) N')))) := by
  obtain ⟨r, hr⟩ : ∃ r : Rc, r = ⟨h.next, unit, l⟩ := ⟨_, rfl⟩
  have hrn : r.num = (h.next : Int) := by rw [hr]
  have e0 : appendV (some M) (some N) unit l = (if r.sound = false then ((0, 1), some M, some N) else if 16384 < r.b.length then ((0, 8), some M, some N) else if h.free < cntW r.b.length then ((0, 14), some M, some N) else ((if (addV (some M) (some N) h r).1 ≠ 0 then 0 else r.num, (addV (some M) (some N) h r).1), (addV (some M) (some N) h r).2)) := by
    unfold appendV
    rw [begin_same ok.ok hM hN (cM 0) (cN 0)]
    simp only [ne_eq, not_true_eq_false, if_false]
    rw [← hr, hrn]
  rw [e0, ← hr]
  by_cases h1 : r.sound = false
  · rw [if_pos h1]
    exact ⟨M, N, 0, 1, rfl, cM, cN, rfl, rfl, Or.inl ⟨by omega, hM, hN⟩⟩
  rw [if_neg h1]
  by_cases h2 : 16384 < r.b.length
  · rw [if_pos h2]
    exact ⟨M, N, 0, 8, rfl, cM, cN, rfl, rfl, Or.inl ⟨by omega, hM, hN⟩⟩
  rw [if_neg h2]
  by_cases h3 : h.free < cntW r.b.length
  · rw [if_pos h3]
    exact ⟨M, N, 0, 14, rfl, cM, cN, rfl, rfl, Or.inl ⟨by omega, hM, hN⟩⟩
  rw [if_neg h3]
  have hv : r.valid = true := Rc.valid_iff.2 ⟨by simpa using h1, by omega⟩
  obtain ⟨a1, a2, a3, _, a5⟩ := addM_is ok hv hrn (by omega) hM
  obtain ⟨b1, b2, b3, _, b5⟩ := addM_is ok hv hrn (by omega) hN
  rw [addV_eq]
  by_cases ha : (addM h r M).1 = 0
  · have e1 : eachV (addM h r) (some M) (some N) = ((addM h r N).1, some (addM h r M).2, some (addM h r N).2) := by simp [eachV, ha]
    rw [e1]
    refine ⟨(addM h r M).2, (addM h r N).2, _, _, rfl, a3 cM, b3 cN, a5, b5, Or.inr ⟨hv, by omega, a1 ha, ?_⟩⟩
    by_cases hb : (addM h r N).1 = 0
    · exact Or.inr ⟨hb, by simp [hb, hrn], b1 hb⟩
    · exact Or.inl ⟨hb, b2 hb⟩
  · have e1 : eachV (addM h r) (some M) (some N) = ((addM h r M).1, some (addM h r M).2, some N) := by simp [eachV, ha]
    rw [e1]
    exact ⟨(addM h r M).2, N, _, _, rfl, a3 cM, cN, a5, rfl, Or.inl ⟨ha, a2 ha, hN⟩⟩
/-- The log is opened behind it. -/
theorem crash_open {M N : Mm} {h : Hw} {R : List Rc} {r : Rc} (ok : LgOk h R) (cM : Clean M) (cN : Clean N) (fM : Full M) (fN : Full N) (uM : M.fuse = -1) (uN : N.fuse = -1)
    (hh : (CpIs h R M ∧ CpIs h R N) ∨ (r.valid = true ∧ r.num = (h.next : Int) ∧ cntW r.b.length ≤ h.free ∧ CpIs (h.more r) (R ++ [r]) M ∧ (CpIs h R N ∨ CpIs (h.more r) (R ++ [r]) N))) :
    ∃ M' N' g S, beginV (some M) (some N) = ⟨g, 0, some M', some N'⟩ ∧ Log (some M') (some N') g S ∧ ((g = h ∧ S = R ∧ CpIs h R M) ∨ (g = h.more r ∧ S = R ++ [r] ∧ r.valid = true ∧ CpIs (h.more r) (R ++ [r]) M)) := by
  rcases hh with ⟨h1, h2⟩ | ⟨hv, hn, hs, h1, h2⟩
  · exact ⟨M, N, h, R, begin_same ok.ok h1 h2 (cM 0) (cN 0), ⟨ok, fun X e => by cases e; exact ⟨h1, cM, uM⟩, fun X e => by cases e; exact ⟨h2, cN, uN⟩, by simp⟩, Or.inl ⟨rfl, rfl, h1⟩⟩
  · have okm := more_ok ok hv hn hs
    rcases h2 with h2 | h2
    · obtain ⟨d1, d2, d3, d4, _, _⟩ := dup_is okm h1 cM fM fN (show (h.more r).n ≤ N.secs.length from h2.len) uN (fun k hk => by rw [cN k] at hk; cases hk)
      have e := begin_behind h1 h2 okm ok cM cN (more_newer hv hn)
      rw [d1] at e
      exact ⟨M, _, _, _, e, ⟨okm, fun X e => by cases e; exact ⟨h1, cM, uM⟩, fun X e => by cases e; exact ⟨d2, d3, d4⟩, by simp⟩, Or.inr ⟨rfl, rfl, hv, h1⟩⟩
    · exact ⟨M, N, _, _, begin_same okm.ok h1 h2 (cM 0) (cN 0), ⟨okm, fun X e => by cases e; exact ⟨h1, cM, uM⟩, fun X e => by cases e; exact ⟨h2, cN, uN⟩, by simp⟩, Or.inr ⟨rfl, rfl, hv, h1⟩⟩

/-! ### Damage -/
/-- Copy T may have sectors that cannot be read; copy F is in order. -/
structure Dm (h : Hw) (R : List Rc) (T F : Mm) : Prop where
  ok : LgOk h R
  t : CpIs h R T
  f : CpIs h R F
  cl : Clean F
  fu : T.fuse = -1 ∧ F.fuse = -1
  full : Full T ∧ Full F
  bad : ∀ k, T.bad k = true → k < h.n
theorem Dm.dup {h : Hw} {R : List Rc} {T F : Mm} (s : Dm h R T F) : (dupV T F h).1 = 0 ∧ CpIs h R (dupV T F h).2 ∧ Clean (dupV T F h).2 ∧ (dupV T F h).2.fuse = -1 ∧ Full (dupV T F h).2 ∧ (dupV T F h).2.secs.length = T.secs.length :=
  dup_is s.ok s.f s.cl s.full.2 s.full.1 s.t.len s.fu.1 s.bad
theorem Dm.fixed {h : Hw} {R : List Rc} {T F : Mm} (s : Dm h R T F) : Dm h R (dupV T F h).2 F := by
  obtain ⟨_, h2, h3, h4, h5, _⟩ := s.dup
  exact ⟨s.ok, h2, s.f, s.cl, ⟨h4, s.fu.2⟩, ⟨h5, s.full.2⟩, fun k hk => by rw [h3 k] at hk; cases hk⟩
theorem Dm.beginA {h : Hw} {R : List Rc} {T F : Mm} (s : Dm h R T F) : ∃ T', beginV (some T) (some F) = ⟨h, 0, some T', some F⟩ ∧ Dm h R T' F := by
  cases hb : T.bad 0 with
  | true =>
    have e := begin_lostA (hdC_bad hb) s.f s.ok s.cl
    rw [s.dup.1] at e
    exact ⟨_, e, s.fixed⟩
  | false => exact ⟨T, begin_same s.ok.ok s.t s.f hb (s.cl 0), s⟩
theorem Dm.beginB {h : Hw} {R : List Rc} {T F : Mm} (s : Dm h R T F) : ∃ T', beginV (some F) (some T) = ⟨h, 0, some F, some T'⟩ ∧ Dm h R T' F := by
  cases hb : T.bad 0 with
  | true =>
    have e := begin_lostB (hdC_bad hb) s.f s.ok s.cl
    rw [s.dup.1] at e
    exact ⟨_, e, s.fixed⟩
  | false => exact ⟨T, begin_same s.ok.ok s.f s.t (s.cl 0) hb, s⟩
theorem Dm.walkA {h : Hw} {R : List Rc} {T F : Mm} (s : Dm h R T F) (p : Rc → Bool) : walkV (some T) (some F) h p = (posW h h.at' (R.takeWhile p), true) :=
  walkW_says (by have := s.ok.ok.n; omega) R _ _ _ s.ok.chain (by have := chain_le s.ok.chain; omega) s.ok.ok.at'.1 s.ok.ok.at'.2 (fun i hi => says_bad s.t s.f (Or.inr s.cl) i hi)
theorem Dm.walkB {h : Hw} {R : List Rc} {T F : Mm} (s : Dm h R T F) (p : Rc → Bool) : walkV (some F) (some T) h p = (posW h h.at' (R.takeWhile p), true) :=
  walkW_says (by have := s.ok.ok.n; omega) R _ _ _ s.ok.chain (by have := chain_le s.ok.chain; omega) s.ok.ok.at'.1 s.ok.ok.at'.2 (fun i hi => says_bad s.f s.t (Or.inl s.cl) i hi)
theorem read_of {A B A' B' : Cp} {h : Hw} {R : List Rc} (hb : beginV A B = ⟨h, 0, A', B'⟩) (hw : walkV A' B' h (fun _ => true) = (posW h h.at' (R.takeWhile fun _ => true), true)) (frm : Int) :
    readV A B frm = (if max frm 1 < (h.first : Int) then ([], 18) else (R.filter fun r => decide (frm ≤ r.last), 0), A', B') := by
  unfold readV
  rw [hb]
  simp only [ne_eq, not_true_eq_false, if_false]
  rw [hw, takeWhile_true]
  simp only [posW_map, if_true]
  split <;> rfl
theorem Dm.hdF {h : Hw} {R : List Rc} {T F : Mm} (s : Dm h R T F) : hdC (some F) = some h := hdC_is s.f s.ok.ok (s.cl 0)
theorem Dm.log {h : Hw} {R : List Rc} {T F : Mm} (s : Dm h R T F) : Log (some (dupV T F h).2) (some F) h R ∧ Log (some F) (some (dupV T F h).2) h R := by
  obtain ⟨_, h2, h3, h4, _, _⟩ := s.dup
  exact ⟨⟨s.ok, fun M e => by cases e; exact ⟨h2, h3, h4⟩, fun M e => by cases e; exact ⟨s.f, s.cl, s.fu.2⟩, by simp⟩, ⟨s.ok, fun M e => by cases e; exact ⟨s.f, s.cl, s.fu.2⟩, fun M e => by cases e; exact ⟨h2, h3, h4⟩, by simp⟩⟩
end Go.Proofs.YtjpkdhnponcciaaGreatDoor

/-
  Walks: whether a description is valid, by the reference.
-/
import Derived.Test.YthkpcalopmddpaaDoorS4
import Derived.Test.YthkpcalopmddpaaDoorS5
import Derived.Test.YthkpcalopmddpaaDoorS20
namespace Go.Proofs.YthkpcalopmddpaaDoor
open Go.RowKit Go.Sort

def dsV (org fmt len blk : Int) : Bool :=
  if org = 0 then (if fmt = 0 then fixV len blk else if fmt = 1 then varV len blk else if fmt = 2 then spnV len blk && decide (32 ≤ blk) else false) else false
theorem box_below (w : World) (s : Array Value) (t : TypeId) : Below w.heap.size w (w.alloc (.cells s t)) := (Below.refl _ _).alloc (Nat.le_refl _) _

set_option maxRecDepth 100000 in
set_option maxHeartbeats 1000000 in
theorem rvalid_any (org fmt len blk : Int) (w : World) :
    Calls Tryd.prog 16 #[.agg (dsv org fmt len blk)] w fun e w' => e = .returned (.bool (dsV org fmt len blk)) ∧ Below w.heap.size w w' := by
  have HB := Lib.hid (box_below w (dsv org fmt len blk) 28)
  by_cases ho : org = 0
  · subst ho
    by_cases h0 : fmt = 0
    · subst h0
      have HR := Lib.hid (show dsV 0 0 len blk = fixV len blk from rfl)
      go_enter Tryd.func16, Tryd.ntmps16
      go_wp2_with fail
      refine (rfix_valid _ _ _).mono ?_
      rintro e w1 ⟨rfl, rfl⟩
      rw [← HR.out]
      go_wp2
      go_ret
      exact ⟨rfl, HB.out⟩
    · by_cases h1 : fmt = 1
      · subst h1
        have HR := Lib.hid (show dsV 0 1 len blk = varV len blk from rfl)
        go_enter Tryd.func16, Tryd.ntmps16
        go_wp2_with fail
        refine (rvar_valid _ _ _).mono ?_
        rintro e w1 ⟨rfl, rfl⟩
        rw [← HR.out]
        go_wp2
        go_ret
        exact ⟨rfl, HB.out⟩
      · by_cases h2 : fmt = 2
        · subst h2
          have HR := Lib.hid (show dsV 0 2 len blk = (spnV len blk && decide (32 ≤ blk)) from rfl)
          clear h0 h1
          by_cases h3 : 32 ≤ blk
          · rw [decide_eq_true h3, Bool.and_true] at HR
            go_enter Tryd.func16, Tryd.ntmps16
            go_wp2_with fail
            refine (rspn_valid _ _ _).mono ?_
            rintro e w1 ⟨rfl, rfl⟩
            rw [← HR.out]
            generalize hq : dsV 0 2 len blk = q
            have HQ := Lib.hid hq
            clear hq
            cases q
            · go_wp2
              go_ret
              exact ⟨by first | (rw [HQ.out]; rfl) | rfl, HB.out⟩
            · go_wp2
              go_ret
              exact ⟨by first | (rw [HQ.out]; rfl) | rfl, HB.out⟩
          · rw [decide_eq_false h3, Bool.and_false] at HR
            go_enter Tryd.func16, Tryd.ntmps16
            go_wp2_with fail
            refine (rspn_valid _ _ _).mono ?_
            rintro e w1 ⟨rfl, rfl⟩
            generalize spnV len blk = q
            cases q
            · go_wp2
              go_ret
              exact ⟨by first | (rw [HR.out]; rfl) | rfl | (rw [HR.out]; show Ending.returned (.bool (decide (32 ≤ blk))) = _; rw [decide_eq_false (show ¬ (32 : Int) ≤ blk by omega)]), HB.out⟩
            · go_wp2
              go_ret
              exact ⟨by first | (rw [HR.out]; rfl) | rfl | (rw [HR.out]; show Ending.returned (.bool (decide (32 ≤ blk))) = _; rw [decide_eq_false (show ¬ (32 : Int) ≤ blk by omega)]), HB.out⟩
        · have HR := Lib.hid (show dsV 0 fmt len blk = false by simp [dsV, h0, h1, h2])
          have e0 : (fmt == 0) = false := by simp [h0]
          have e1 : (fmt == 1) = false := by simp [h1]
          have e2 : (fmt == 2) = false := by simp [h2]
          go_enter Tryd.func16, Tryd.ntmps16
          go_wp2
          go_ret
          exact ⟨by first | (rw [HR.out]; rfl) | rfl, HB.out⟩
  · have HR := Lib.hid (show dsV org fmt len blk = false by simp [dsV, ho])
    have e0 : (org == 0) = false := by simp [ho]
    have e1 : (org != 0) = true := by simp [ho]
    go_enter Tryd.func16, Tryd.ntmps16
    go_wp2
    go_ret
    exact ⟨by first | (rw [HR.out]; rfl) | rfl, HB.out⟩

end Go.Proofs.YthkpcalopmddpaaDoor

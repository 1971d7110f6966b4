/-
  Walks: whether a record is of an allowed length.
-/
import Derived.Test.YthkpcalopmddpaaDoorS4
import Derived.Test.YthkpcalopmddpaaDoorS21
namespace Go.Proofs.YthkpcalopmddpaaDoor
open Go.RowKit Go.Sort
attribute [local go_sem] strOfNums_size

set_option maxRecDepth 100000 in
set_option maxHeartbeats 400000 in
theorem equal_any (n len : Int) (w : World) : Calls Tryd.prog 67 #[.int .i64 n, .int .i64 len] w fun e w' => e = .returned (.bool (decide (n = len))) ∧ w = w' := by
  by_cases h : n = len
  · subst h
    have H := Lib.hid (show decide (n = n) = true by simp)
    go_enter Tryd.func67, Tryd.ntmps67
    go_wp2
    go_ret
    exact ⟨by first | (rw [H.out]; rfl) | rfl, rfl⟩
  · have H := Lib.hid (show decide (n = len) = false by simp [h])
    have e0 : (n == len) = false := by simp [h]
    go_enter Tryd.func67, Tryd.ntmps67
    go_wp2
    go_ret
    exact ⟨by first | (rw [H.out]; rfl) | rfl, rfl⟩

set_option maxRecDepth 100000 in
set_option maxHeartbeats 400000 in
theorem eqclos_any (r : By) (g1 g2 : Nat) (len : Int) (w : World) (h1 : w.cell? ⟨g1, 0, none⟩ = some (fnv 67)) (h2 : w.cell? ⟨g2, 3, none⟩ = some (.int .i64 len)) :
    Calls Tryd.prog 57 #[.string ⟨r.toArray⟩, .pointer (some ⟨g1, 0, none⟩), .pointer (some ⟨g2, 0, none⟩)] w fun e w' => e = .returned (.bool (!(decide ((r.length : Int) = len)))) ∧ w = w' := by
  have HC := Lib.hid (equal_any (r.length : Int) len w)
  generalize decide ((r.length : Int) = len) = q at HC ⊢
  go_enter Tryd.func57, Tryd.ntmps57
  go_wp2_with fail
  refine HC.out.mono ?_
  rintro e w1 ⟨rfl, rfl⟩
  go_wp2
  go_ret
  exact ⟨rfl, rfl⟩

set_option maxRecDepth 100000 in
set_option maxHeartbeats 400000 in
theorem atclos_any (r : By) (g1 g2 : Nat) (len : Int) (w : World) (h1 : w.cell? ⟨g1, 0, none⟩ = some (fnv 71)) (h2 : w.cell? ⟨g2, 3, none⟩ = some (.int .i64 len)) :
    Calls Tryd.prog 57 #[.string ⟨r.toArray⟩, .pointer (some ⟨g1, 0, none⟩), .pointer (some ⟨g2, 0, none⟩)] w fun e w' => e = .returned (.bool (!(decide ((r.length : Int) ≤ len)))) ∧ w = w' := by
  have HC := Lib.hid (atmost_any (r.length : Int) len w)
  generalize decide ((r.length : Int) ≤ len) = q at HC ⊢
  go_enter Tryd.func57, Tryd.ntmps57
  go_wp2_with fail
  refine HC.out.mono ?_
  rintro e w1 ⟨rfl, rfl⟩
  go_wp2
  go_ret
  exact ⟨rfl, rfl⟩

end Go.Proofs.YthkpcalopmddpaaDoor

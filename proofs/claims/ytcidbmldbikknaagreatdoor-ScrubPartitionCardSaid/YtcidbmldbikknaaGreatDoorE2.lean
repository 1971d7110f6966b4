/-
  Walks: the sizes of volumes, a run clipped, by the program and the reference. No condition.
-/
import Derived.Test.YtcidbmldbikknaaGreatDoorCom
import Derived.Test.YtcidbmldbikknaaGreatDoorE1
namespace Go.Proofs.YtcidbmldbikknaaGreatDoor
open Go.RowKit Go.Sort

set_option maxRecDepth 100000 in
set_option maxHeartbeats 400000 in
theorem tracksok_any (n : Int) (w : World) : Calls Tryz.prog 59 #[.int .i64 n] w fun e w' => e = .returned (.bool (tvP n)) ∧ w = w' := by
  by_cases h1 : 4 ≤ n
  · by_cases h2 : n ≤ 128
    · have H := Lib.hid (show tvP n = true by simp [tvP, h1, h2])
      go_enter Tryz.func59, Tryz.ntmps59
      go_wp2_with fail
      go_ret
      exact ⟨by rw [H.out]; rfl, rfl⟩
    · have H := Lib.hid (show tvP n = false by simp [tvP, h2])
      go_enter Tryz.func59, Tryz.ntmps59
      go_wp2_with fail
      go_ret
      exact ⟨by rw [H.out]; rfl, rfl⟩
  · have H := Lib.hid (show tvP n = false by simp [tvP, h1])
    go_enter Tryz.func59, Tryz.ntmps59
    go_wp2_with fail
    go_ret
    exact ⟨by rw [H.out]; rfl, rfl⟩
set_option maxRecDepth 100000 in
set_option maxHeartbeats 400000 in
theorem rvalidt_any (n : Int) (w : World) : Calls Tryz.prog 52 #[.int .i64 n] w fun e w' => e = .returned (.bool (tvP n)) ∧ w = w' := by
  by_cases h1 : 4 ≤ n
  · by_cases h2 : n ≤ 128
    · have H := Lib.hid (show tvP n = true by simp [tvP, h1, h2])
      go_enter Tryz.func52, Tryz.ntmps52
      go_wp2_with fail
      go_ret
      exact ⟨by rw [H.out]; rfl, rfl⟩
    · have H := Lib.hid (show tvP n = false by simp [tvP, h2])
      go_enter Tryz.func52, Tryz.ntmps52
      go_wp2_with fail
      go_ret
      exact ⟨by rw [H.out]; rfl, rfl⟩
  · have H := Lib.hid (show tvP n = false by simp [tvP, h1])
    go_enter Tryz.func52, Tryz.ntmps52
    go_wp2_with fail
    go_ret
    exact ⟨by rw [H.out]; rfl, rfl⟩
set_option maxRecDepth 100000 in
set_option maxHeartbeats 400000 in
theorem tabletracks_any (n : Int) (w : World) : Calls Tryz.prog 30 #[.int .i64 n] w fun e w' => e = .returned (.int .i64 (ttP n)) ∧ w = w' := by
  have HV := Lib.hid (tracksok_any n w)
  by_cases h : 4 ≤ n ∧ n ≤ 128
  · have H := Lib.hid (show ttP n = (n + 3) / 4 by unfold ttP; rw [if_pos h])
    rw [show tvP n = true by simpa [tvP] using h] at HV
    obtain ⟨h1, h2⟩ := h
    have m1 : (n + 3).tdiv 4 = (n + 3) / 4 := Int.tdiv_eq_ediv_of_nonneg (by omega)
    have m2 : IntKind.i64.wrap ((n + 3) / 4) = (n + 3) / 4 := IntWalk.i64_in _ (by omega)
    go_enter Tryz.func30, Tryz.ntmps30
    go_wp2_with fail
    refine HV.out.mono ?_
    rintro e _ ⟨rfl, rfl⟩
    go_wp2_with fail
    go_ret
    exact ⟨by rw [H.out]; rfl, rfl⟩
  · have H := Lib.hid (show ttP n = 0 by unfold ttP; rw [if_neg h])
    rw [show tvP n = false by simpa [tvP] using h] at HV
    clear h
    go_enter Tryz.func30, Tryz.ntmps30
    go_wp2_with fail
    refine HV.out.mono ?_
    rintro e _ ⟨rfl, rfl⟩
    go_wp2_with fail
    go_ret
    exact ⟨by rw [H.out]; rfl, rfl⟩
set_option maxRecDepth 100000 in
set_option maxHeartbeats 400000 in
theorem rtabletracks_any (n : Int) (w : World) : Calls Tryz.prog 23 #[.int .i64 n] w fun e w' => e = .returned (.int .i64 (ttP n)) ∧ w = w' := by
  have HV := Lib.hid (rvalidt_any n w)
  by_cases h : 4 ≤ n ∧ n ≤ 128
  · have H := Lib.hid (show ttP n = (n + 3) / 4 by unfold ttP; rw [if_pos h])
    rw [show tvP n = true by simpa [tvP] using h] at HV
    obtain ⟨h1, h2⟩ := h
    have m1 : (n + 3).tdiv 4 = (n + 3) / 4 := Int.tdiv_eq_ediv_of_nonneg (by omega)
    have m2 : IntKind.i64.wrap ((n + 3) / 4) = (n + 3) / 4 := IntWalk.i64_in _ (by omega)
    go_enter Tryz.func23, Tryz.ntmps23
    go_wp2_with fail
    refine HV.out.mono ?_
    rintro e _ ⟨rfl, rfl⟩
    go_wp2_with fail
    go_ret
    exact ⟨by rw [H.out]; rfl, rfl⟩
  · have H := Lib.hid (show ttP n = 0 by unfold ttP; rw [if_neg h])
    rw [show tvP n = false by simpa [tvP] using h] at HV
    clear h
    go_enter Tryz.func23, Tryz.ntmps23
    go_wp2_with fail
    refine HV.out.mono ?_
    rintro e _ ⟨rfl, rfl⟩
    go_wp2_with fail
    go_ret
    exact ⟨by rw [H.out]; rfl, rfl⟩

end Go.Proofs.YtcidbmldbikknaaGreatDoor

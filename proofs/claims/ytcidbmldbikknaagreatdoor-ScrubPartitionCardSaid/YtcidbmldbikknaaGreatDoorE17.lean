/-
  Walks: whether a result is small, whether it is clean. Condition of the second: at most some thousand findings.
-/
import Derived.Test.YtcidbmldbikknaaGreatDoorCom
namespace Go.Proofs.YtcidbmldbikknaaGreatDoor
open Go.RowKit Go.Sort

abbrev scC (f u : Int) (ta : Option Addr) (tn tc : Nat) (sa : Option Addr) (sn sc : Nat) (ba : Option Addr) (bn bc : Nat) : Array Value := #[.int .i64 f, .int .i64 u, .slice ta tn tc, .slice sa sn sc, .slice ba bn bc]
def fewSc (tn sn bn : Nat) : Bool := decide ((tn : Int) ≤ 30) && decide ((sn : Int) ≤ 130) && decide ((bn : Int) ≤ 100)

set_option maxRecDepth 100000 in
set_option maxHeartbeats 1000000 in
theorem few15_any (f u : Int) (ta : Option Addr) (tn tc : Nat) (sa : Option Addr) (sn sc : Nat) (ba : Option Addr) (bn bc : Nat) (w : World) (h1 : tn ≤ 9223372036854775807) (h2 : sn ≤ 9223372036854775807) (_h3 : bn ≤ 9223372036854775807) :
    Calls Tryz.prog 8 #[.agg (scC f u ta tn tc sa sn sc ba bn bc)] w fun e w' => e = .returned (.bool (fewSc tn sn bn)) ∧ Below w.heap.size w w' := by
  have hz := heap_alloc_new w (.cells (scC f u ta tn tc sa sn sc ba bn bc) 29)
  have HB := Lib.hid (box_below w (scC f u ta tn tc sa sn sc ba bn bc) 29)
  have c2 := cell_at (i := 2) (v := .slice ta tn tc) hz rfl
  have c3 := cell_at (i := 3) (v := .slice sa sn sc) hz rfl
  have c4 := cell_at (i := 4) (v := .slice ba bn bc) hz rfl
  have HF := Lib.hid (show fewSc tn sn bn = (decide ((tn : Int) ≤ 30) && decide ((sn : Int) ≤ 130) && decide ((bn : Int) ≤ 100)) from rfl)
  generalize fewSc tn sn bn = q at HF ⊢
  clear hz
  by_cases k1 : (tn : Int) ≤ 30
  · by_cases k2 : (sn : Int) ≤ 130
    · by_cases k3 : (bn : Int) ≤ 100
      all_goals
        go_enter Tryz.func8, Tryz.ntmps8
        go_wp2_with fail
        go_ret
        exact ⟨by rw [HF.out]; simp [k1, k2, k3], HB.out⟩
    · go_enter Tryz.func8, Tryz.ntmps8
      go_wp2_with fail
      go_ret
      exact ⟨by rw [HF.out, decide_eq_true k1, decide_eq_false (show ¬ (sn : Int) ≤ 130 by omega)]; rfl, HB.out⟩
  · go_enter Tryz.func8, Tryz.ntmps8
    go_wp2_with fail
    go_ret
    exact ⟨by rw [HF.out, decide_eq_false (show ¬ (tn : Int) ≤ 30 by omega)]; rfl, HB.out⟩

set_option maxRecDepth 100000 in
set_option maxHeartbeats 1000000 in
theorem clean_any (f u : Int) (ta : Option Addr) (tn tc : Nat) (sa : Option Addr) (sn sc : Nat) (ba : Option Addr) (bn bc : Nat) (w : World) (h2 : sn ≤ 1000000) (h3 : bn ≤ 1000000) :
    Calls Tryz.prog 15 #[.agg (scC f u ta tn tc sa sn sc ba bn bc)] w fun e w' => e = .returned (.bool (decide (sn = 0) && decide (bn = 0))) ∧ Below w.heap.size w w' := by
  have hz := heap_alloc_new w (.cells (scC f u ta tn tc sa sn sc ba bn bc) 29)
  have HB := Lib.hid (box_below w (scC f u ta tn tc sa sn sc ba bn bc) 29)
  have c3 := cell_at (i := 3) (v := .slice sa sn sc) hz rfl
  have c4 := cell_at (i := 4) (v := .slice ba bn bc) hz rfl
  have HF := Lib.hid (show (((sn : Int) + (bn : Int)) == 0) = (decide (sn = 0) && decide (bn = 0)) by
    by_cases k1 : sn = 0 <;> by_cases k2 : bn = 0 <;> simp [k1, k2] <;> omega)
  generalize (decide (sn = 0) && decide (bn = 0)) = q at HF ⊢
  clear hz
  go_enter Tryz.func15, Tryz.ntmps15
  go_wp2_with fail
  try go_region
  try go_wp2_with fail
  go_ret
  exact ⟨by rw [← HF.out]; rfl, by first | exact HB.out | exact below_drewN HB.out 1⟩

end Go.Proofs.YtcidbmldbikknaaGreatDoor

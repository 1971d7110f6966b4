/-
  Walks: a run clipped, by the reference. Condition: numbers of 64 bits.
-/
import Derived.Test.YtcidbmldbikknaaGreatDoorE3
namespace Go.Proofs.YtcidbmldbikknaaGreatDoor
open Go.RowKit Go.Sort
attribute [local go_sem ↓] loadRn_down storeRn_down

/-- What the reference has found after some tracks. -/
def stP (r : Rn) (k : Nat) : Nat × Nat := if (clipP r).2 = 0 ∨ k ≤ (clipP r).1 then (0, 0) else ((clipP r).1, min k ((clipP r).1 + (clipP r).2) - (clipP r).1)
theorem clipP_zero (r : Rn) (h : (clipP r).2 = 0) : clipP r = (0, 0) := by
  unfold clipP at h ⊢
  split
  · rfl
  · rename_i hc
    rw [if_neg hc] at h
    simp only at h
    omega
theorem stP_end (r : Rn) : stP r 128 = clipP r := by
  have h := clipP_le r
  have hz := clipP_zero r
  unfold stP
  by_cases h0 : (clipP r).2 = 0
  · rw [if_pos (Or.inl h0), hz h0]
  · rw [if_neg (by omega), show min 128 ((clipP r).1 + (clipP r).2) - (clipP r).1 = (clipP r).2 by omega]
theorem stP_no (r : Rn) (k : Nat) (hk : k < 128) (h : holdsP r k = false) : stP r (k + 1) = stP r k := by
  have hh := holds_clip r k hk
  rw [h] at hh
  have h1 : ¬ ((clipP r).1 ≤ k ∧ k < (clipP r).1 + (clipP r).2) := fun x => by have := hh.2 x; cases this
  unfold stP
  by_cases h0 : (clipP r).2 = 0
  · rw [if_pos (Or.inl h0), if_pos (Or.inl h0)]
  · by_cases h2 : k < (clipP r).1
    · rw [if_pos (Or.inr (by omega)), if_pos (Or.inr (by omega))]
    · rw [if_neg (by omega), if_neg (by omega), show min (k + 1) ((clipP r).1 + (clipP r).2) = min k ((clipP r).1 + (clipP r).2) by omega]
theorem stP_yes (r : Rn) (k : Nat) (hk : k < 128) (h : holdsP r k = true) :
    ((stP r k).2 = 0 → stP r (k + 1) = (k, 1)) ∧ ((stP r k).2 ≠ 0 → stP r (k + 1) = ((stP r k).1, (stP r k).2 + 1)) ∧ (stP r k).2 ≤ 128 := by
  obtain ⟨h1, h2⟩ := (holds_clip r k hk).1 h
  unfold stP
  rw [if_neg (show ¬ ((clipP r).2 = 0 ∨ k + 1 ≤ (clipP r).1) by omega)]
  by_cases h3 : k ≤ (clipP r).1
  · rw [if_pos (Or.inr h3)]
    simp only
    have e : (clipP r).1 = k := by omega
    exact ⟨fun _ => by rw [e, show min (k + 1) (k + (clipP r).2) - k = 1 by omega], fun h => absurd rfl h, by omega⟩
  · rw [if_neg (show ¬ ((clipP r).2 = 0 ∨ k ≤ (clipP r).1) by omega)]
    simp only
    refine ⟨fun h => by omega, fun _ => ?_, by omega⟩
    rw [show min (k + 1) ((clipP r).1 + (clipP r).2) - (clipP r).1 = min k ((clipP r).1 + (clipP r).2) - (clipP r).1 + 1 by omega]

set_option maxRecDepth 100000 in
set_option maxHeartbeats 2000000 in
theorem rholds_any (r : Rn) (hr : okRn r) (t : Nat) (ht : t < 128) (w : World) :
    Calls Tryz.prog 90 #[.agg #[.int .i64 r.1, .int .i64 r.2], .int .i64 t] w fun e w' => e = .returned (.bool (holdsP r t)) ∧ Below w.heap.size w w' := by
  obtain ⟨a, b⟩ := r
  obtain ⟨⟨a1, a2⟩, b1, b2⟩ := hr
  simp only at a1 a2 b1 b2
  have hz0 := heap_alloc_new w (.cells #[.int .i64 a, .int .i64 b] 68)
  have HB := Lib.hid (box_below w #[.int .i64 a, .int .i64 b] 68)
  have c0 := cell_at (i := 0) (v := .int .i64 a) hz0 rfl
  have c1 := cell_at (i := 1) (v := .int .i64 b) hz0 rfl
  have hh : holdsP (a, b) t = (decide (1 ≤ b) && (if a < 0 then decide ((t : Int) < a + b) else (decide (a ≤ (t : Int)) && decide ((t : Int) - a < b)))) := rfl
  generalize holdsP (a, b) t = q at hh ⊢
  clear hz0
  by_cases hb : 1 ≤ b
  rotate_left
  · have HQ := Lib.hid (show q = false by rw [hh]; simp [hb])
    clear hh
    by_cases ha : a < 0
    all_goals
      go_enter Tryz.func90, Tryz.ntmps90
      go_wp2_with fail
      go_ret
      exact ⟨by rw [HQ.out]; rfl, HB.out⟩
  · by_cases ha : a < 0
    · by_cases h2 : (t : Int) < a + b
      · have HQ := Lib.hid (show q = true by rw [hh]; simp [hb, ha, h2])
        clear hh
        go_enter Tryz.func90, Tryz.ntmps90
        go_wp2_with fail
        go_ret
        exact ⟨by rw [HQ.out]; rfl, HB.out⟩
      · have HQ := Lib.hid (show q = false by rw [hh]; simp [ha, h2])
        clear hh
        go_enter Tryz.func90, Tryz.ntmps90
        go_wp2_with fail
        go_ret
        exact ⟨by rw [HQ.out]; rfl, HB.out⟩
    · by_cases h1 : a ≤ (t : Int)
      · by_cases h2 : (t : Int) - a < b
        · have HQ := Lib.hid (show q = true by rw [hh]; simp [hb, ha, h1, h2])
          clear hh
          go_enter Tryz.func90, Tryz.ntmps90
          go_wp2_with fail
          go_ret
          exact ⟨by rw [HQ.out]; rfl, HB.out⟩
        · have HQ := Lib.hid (show q = false by rw [hh]; simp [ha, h1, h2])
          clear hh
          go_enter Tryz.func90, Tryz.ntmps90
          go_wp2_with fail
          go_ret
          exact ⟨by rw [HQ.out]; rfl, HB.out⟩
      · have HQ := Lib.hid (show q = false by rw [hh]; simp [ha, h1])
        clear hh
        go_enter Tryz.func90, Tryz.ntmps90
        go_wp2_with fail
        go_ret
        exact ⟨by rw [HQ.out]; rfl, HB.out⟩

end Go.Proofs.YtcidbmldbikknaaGreatDoor

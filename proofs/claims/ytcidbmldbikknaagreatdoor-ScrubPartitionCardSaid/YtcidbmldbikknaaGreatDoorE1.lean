/-
  Plain: runs of tracks, clipped. No condition.
-/
import Derived.Test.YtcidbmldbikknaaGreatDoorCom
namespace Go.Proofs.YtcidbmldbikknaaGreatDoor
open Go.RowKit Go.Sort

/-- A run: where it begins, how many tracks. -/
abbrev Rn := Int × Int
def okI (x : Int) : Prop := -9223372036854775808 ≤ x ∧ x ≤ 9223372036854775807
def okRn (r : Rn) : Prop := okI r.1 ∧ okI r.2
def loP (r : Rn) : Int := max 0 r.1
def hiP (r : Rn) : Int := if r.1 < 0 ∨ r.2 < 128 - r.1 then min 128 (r.1 + r.2) else 128
/-- The existing tracks of a run. -/
def clipP (r : Rn) : Nat × Nat := if r.2 < 1 ∨ 128 ≤ r.1 ∨ hiP r ≤ loP r then (0, 0) else ((loP r).toNat, (hiP r - loP r).toNat)
/-- Whether a run holds a track. -/
def holdsP (r : Rn) (t : Int) : Bool := decide (1 ≤ r.2) && (if r.1 < 0 then decide (t < r.1 + r.2) else (decide (r.1 ≤ t) && decide (t - r.1 < r.2)))
theorem hiP_le (r : Rn) : hiP r ≤ 128 := by unfold hiP; split <;> omega
theorem loP_ge (r : Rn) : 0 ≤ loP r := by unfold loP; omega
theorem clipP_le (r : Rn) : (clipP r).1 + (clipP r).2 ≤ 128 := by
  have h1 := hiP_le r
  have h2 := loP_ge r
  unfold clipP
  split
  · simp
  · simp only; omega
theorem holds_clip (r : Rn) (t : Nat) (ht : t < 128) : holdsP r t = true ↔ (clipP r).1 ≤ t ∧ t < (clipP r).1 + (clipP r).2 := by
  obtain ⟨a, b⟩ := r
  unfold holdsP clipP hiP loP
  simp only [Bool.and_eq_true, decide_eq_true_eq]
  by_cases h0 : a < 0
  · rw [if_pos h0, if_pos (Or.inl h0)]
    simp only [decide_eq_true_eq]
    split <;> simp only <;> omega
  · rw [if_neg h0]
    simp only [Bool.and_eq_true, decide_eq_true_eq]
    by_cases h1 : b < 128 - a
    · rw [if_pos (Or.inr h1)]
      split <;> simp only <;> omega
    · rw [if_neg (show ¬ (a < 0 ∨ b < 128 - a) by omega)]
      by_cases hc : b < 1 ∨ 128 ≤ a ∨ (128 : Int) ≤ max 0 a
      · rw [if_pos hc]; simp only; omega
      · rw [if_neg hc]; simp only; omega
/-- The tracks of a list of runs, in order. -/
def seqP : List Rn → List Nat
  | [] => []
  | r :: l => List.range' (clipP r).1 (clipP r).2 ++ seqP l
/-- The place of a track in them. -/
def idxP : List Rn → Nat → Int → Option Nat
  | [], _, _ => none
  | r :: l, n, t => if ((clipP r).1 : Int) ≤ t ∧ t < ((clipP r).1 + (clipP r).2 : Nat) then some (n + (t - (clipP r).1).toNat) else idxP l (n + (clipP r).2) t
/-- The number of the tracks of the table of contents. -/
def ttP (n : Int) : Int := if 4 ≤ n ∧ n ≤ 128 then (n + 3) / 4 else 0
def tvP (n : Int) : Bool := decide (4 ≤ n ∧ n ≤ 128)
def trP (n : Int) : Int := if 4 ≤ n ∧ n ≤ 128 then n else 0

end Go.Proofs.YtcidbmldbikknaaGreatDoor

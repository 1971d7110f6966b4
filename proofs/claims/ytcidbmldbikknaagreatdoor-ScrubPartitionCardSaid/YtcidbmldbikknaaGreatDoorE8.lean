/-
  Walk: the place of a track in a list of runs, by the reference. Conditions: runs in memory as a slice; numbers of 64 bits.
-/
import Derived.Test.YtcidbmldbikknaaGreatDoorE7
namespace Go.Proofs.YtcidbmldbikknaaGreatDoor
open Go.RowKit Go.Sort

/-- The first place of a number. -/
def idxS : List Nat → Nat → Int → Option Nat
  | [], _, _ => none
  | x :: l, n, t => if (x : Int) = t then some n else idxS l (n + 1) t
theorem idxS_range (rest : List Nat) (t : Int) : ∀ (c f n : Nat), idxS (List.range' f c ++ rest) n t = if (f : Int) ≤ t ∧ t < ((f + c : Nat) : Int) then some (n + (t - f).toNat) else idxS rest (n + c) t
  | 0, f, n => by rw [if_neg (by omega)]; simp
  | c + 1, f, n => by
    rw [List.range'_succ, List.cons_append, idxS, idxS_range rest t c (f + 1) (n + 1)]
    by_cases h0 : (f : Int) = t
    · rw [if_pos h0, if_pos (by omega)]
      congr 1; omega
    · rw [if_neg h0]
      by_cases h1 : ((f + 1 : Nat) : Int) ≤ t ∧ t < ((f + 1 + c : Nat) : Int)
      · rw [if_pos h1, if_pos (by omega)]
        congr 1; omega
      · rw [if_neg h1, if_neg (by omega)]
        congr 1; omega
theorem idxS_P (t : Int) : ∀ (l : List Rn) (n : Nat), idxS (seqP l) n t = idxP l n t
  | [], _ => rfl
  | r :: l, n => by
    rw [seqP, idxS_range, idxP, idxS_P t l]
structure Nums (w : World) (a : Option Addr) (l : List Nat) : Prop where
  cells : l ≠ [] → ∃ b, a = some ⟨b, 0, none⟩ ∧ ∀ i (h : i < l.length), w.cell? ⟨b, i, none⟩ = some (iv l[i])
theorem nums_of_row {w : World} {base : Nat} {e : TypeId} {v : Value} {l : List Nat} (h : w.ownsRow base e 1 v l.length (l.map iv)) : ∃ a cap, v = .slice a l.length cap ∧ Nums w a l := by
  rcases h.2 with ⟨rfl, hn⟩ | ⟨g, cap, cur, rfl, hbase, hblk, q1, q2, q3, q4⟩
  · have : l = [] := List.length_eq_zero_iff.1 hn
    subst this; exact ⟨none, 0, rfl, ⟨fun h => absurd rfl h⟩⟩
  · refine ⟨_, cap, rfl, ⟨fun _ => ⟨g, rfl, fun i hi => ?_⟩⟩⟩
    rw [cell_of_row w g i cur e (0, 0) hblk]
    have hi2 : (l.map iv)[i]? = some (iv l[i]) := by simp [hi]
    rw [← q4, List.getElem?_take, if_pos (by omega)] at hi2
    simpa using hi2
theorem Nums.below {w w' : World} {a : Option Addr} {l : List Nat} (h : Nums w a l) (hb : Below w.heap.size w w') : Nums w' a l :=
  ⟨fun hl => by obtain ⟨b, h1, h2⟩ := h.cells hl; exact ⟨b, h1, fun i hi => (hb.cell (block_lt_of_cell (h2 i hi))).trans (h2 i hi)⟩⟩

end Go.Proofs.YtcidbmldbikknaaGreatDoor

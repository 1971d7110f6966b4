/-
  Rows of pairs of numbers, cell by cell. No condition.
-/
import Derived.Test.YtcidbmldbikknaaGreatDoorE9
namespace Go.Proofs.YtcidbmldbikknaaGreatDoor
open Go.RowKit Go.Sort

def encR (x : Rn) : List Value := [.int .i64 x.1, .int .i64 x.2]
/-- References, cell by cell. -/
def refsF : List Rn → List Value
  | [] => []
  | x :: l => .int .i64 x.1 :: .int .i64 x.2 :: refsF l
theorem refsF_len : ∀ l : List Rn, (refsF l).length = l.length * 2
  | [] => rfl
  | x :: l => by simp [refsF, refsF_len l]; omega
theorem refsF_append : ∀ l m : List Rn, refsF (l ++ m) = refsF l ++ refsF m
  | [], _ => rfl
  | x :: l, m => by simp [refsF, refsF_append l m]
theorem refsF_get : ∀ (l : List Rn) (j : Nat), j < l.length * 2 → (refsF l)[j]? = some ((encR l[j / 2]!)[j % 2]!)
  | [], j, h => by simp at h
  | x :: l, 0, _ => rfl
  | x :: l, 1, _ => rfl
  | x :: l, j + 2, h => by
    have h1 : (j + 2) / 2 = j / 2 + 1 := by omega
    have h2 : (j + 2) % 2 = j % 2 := by omega
    rw [refsF, List.getElem?_cons_succ, List.getElem?_cons_succ, refsF_get l j (by simp at h; omega), h1, h2]
    simp
theorem infoR : (Tryz.prog.info? 40).map (fun i => (i.zero, i.size, i.bytes)) = some (some (.agg #[.int .i64 0, .int .i64 0]), 2, 16) := by kernel_rfl
theorem row_slice {w : World} {base : Nat} {e : TypeId} {k : Nat} {v : Value} {n : Nat} {xs : List Value} (h : w.ownsRow base e k v n xs) : ∃ a c, v = .slice a n c := by
  rcases h.2 with ⟨rfl, rfl⟩ | ⟨g, cap, cur, rfl, _⟩
  · exact ⟨none, 0, rfl⟩
  · exact ⟨_, cap, rfl⟩
/-- An owned row of references reads as such. -/
theorem runs_of_row {w : World} {base : Nat} {e : TypeId} {v : Value} {l : List Rn} (h : w.ownsRow base e 2 v l.length (refsF l)) (hok : ∀ r ∈ l, okRn r) : ∃ a cap, v = .slice a l.length cap ∧ Runs w w.heap.size a l := by
  rcases h.2 with ⟨rfl, hn⟩ | ⟨g, cap, cur, rfl, hbase, hblk, q1, q2, q3, q4⟩
  · have : l = [] := List.length_eq_zero_iff.1 (by simpa using hn)
    subst this; exact ⟨none, 0, rfl, runs_nil _ _ _⟩
  · refine ⟨_, cap, rfl, ⟨fun _ => ⟨g, 0, rfl, lt_of_block hblk, fun i hi => ?_⟩, hok⟩⟩
    have gt : ∀ j, j < l.length * 2 → w.cell? ⟨g, 0 + j, none⟩ = some ((encR l[j / 2]!)[j % 2]!) := by
      intro j hj
      have h2 := refsF_get l j hj
      rw [← q4, List.getElem?_take, if_pos (by simpa using hj)] at h2
      rw [Nat.zero_add, cell_of_row w g j cur e (0, 0) hblk]
      simpa using h2
    have e0 := gt (i * 2) (by omega)
    have e1 := gt (i * 2 + 1) (by omega)
    rw [show i * 2 / 2 = i by omega, show i * 2 % 2 = 0 by omega, getElem!_pos l i hi] at e0
    rw [show (i * 2 + 1) / 2 = i by omega, show (i * 2 + 1) % 2 = 1 by omega, getElem!_pos l i hi] at e1
    exact ⟨e0, e1⟩


end Go.Proofs.YtcidbmldbikknaaGreatDoor

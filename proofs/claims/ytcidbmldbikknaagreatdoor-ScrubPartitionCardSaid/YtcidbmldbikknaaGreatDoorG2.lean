/-
  Walk: the references of all labels in order, by the reference. Conditions: a table in memory; numbers of 64 bits.
-/
import Derived.Test.YtcidbmldbikknaaGreatDoorG1
import Derived.Deep.RegionHeld3
namespace Go.Proofs.YtcidbmldbikknaaGreatDoor
open Go.RowKit Go.Sort
attribute [local go_sem ↓] storeRef_down loadTab_down loadLab_down

theorem c2_alloc {W : World} {p1 p2 : Addr} {x1 x2 : Value} (h : W.cell? p1 = some x1 ∧ W.cell? p2 = some x2) (o : Obj) : (W.alloc o).cell? p1 = some x1 ∧ (W.alloc o).cell? p2 = some x2 := by
  have hb : Below W.heap.size W (W.alloc o) := (Below.refl _ _).alloc (Nat.le_refl _) o
  exact ⟨(hb.cell (block_lt_of_cell h.1)).trans h.1, (hb.cell (block_lt_of_cell h.2)).trans h.2⟩
theorem c3_alloc {W : World} {p1 p2 p3 : Addr} {x1 x2 x3 : Value} (h : W.cell? p1 = some x1 ∧ W.cell? p2 = some x2 ∧ W.cell? p3 = some x3) (o : Obj) : (W.alloc o).cell? p1 = some x1 ∧ (W.alloc o).cell? p2 = some x2 ∧ (W.alloc o).cell? p3 = some x3 := by
  have hb : Below W.heap.size W (W.alloc o) := (Below.refl _ _).alloc (Nat.le_refl _) o
  exact ⟨(hb.cell (block_lt_of_cell h.1)).trans h.1, (hb.cell (block_lt_of_cell h.2.1)).trans h.2.1, (hb.cell (block_lt_of_cell h.2.2)).trans h.2.2⟩

/-- A reference put in its place. -/
def insR (x : Rn) : List Rn → List Rn
  | [] => [x]
  | y :: l => if lessR x y = true then x :: y :: l else y :: insR x l
def refsI : List Lab → List Rn → List Rn
  | [], out => out
  | x :: l, out => if emptyL x = true then refsI l out else refsI l (insR (x.id, x.unit) out)
theorem insR_at (x : Rn) : ∀ (out : List Rn) (j : Nat), j ≤ out.length → (∀ i (h : i < out.length), i < j → lessR x out[i] = false) → (∀ h : j < out.length, lessR x out[j] = true) → out.take j ++ (x :: out.drop j) = insR x out
  | [], j, hj, _, _ => by obtain rfl : j = 0 := by simpa using hj
                          rfl
  | y :: l, 0, _, _, h2 => by
    have := h2 (by simp)
    simp only [List.getElem_cons_zero] at this
    simp [insR, this]
  | y :: l, j + 1, hj, h1, h2 => by
    have h0 := h1 0 (by simp) (by omega)
    simp only [List.getElem_cons_zero] at h0
    have ih := insR_at x l j (by simpa using hj) (fun i hi hij => h1 (i + 1) (by simpa using hi) (by omega)) (fun h => h2 (by simpa using h))
    simp [insR, h0, ih]
theorem insR_len (x : Rn) : ∀ out : List Rn, (insR x out).length = out.length + 1
  | [] => rfl
  | y :: l => by unfold insR; split <;> simp [insR_len x l]
theorem less_lt (x y : Rn) : ltOf refC x y = lessR x y := lt_ref x y
theorem insR_perm (x : Rn) : ∀ out : List Rn, (insR x out).Perm (x :: out)
  | [] => List.Perm.refl _
  | y :: l => by
    unfold insR
    split
    · exact List.Perm.refl _
    · exact ((insR_perm x l).cons y).trans (List.Perm.swap x y l)
theorem refsI_perm : ∀ (l : List Lab) (out : List Rn), (refsI l out).Perm (refsU l ++ out)
  | [], out => List.Perm.refl _
  | x :: l, out => by
    unfold refsI refsU
    split
    · exact refsI_perm l out
    · refine (refsI_perm l _).trans ?_
      refine ((insR_perm _ out).append_left (refsU l)).trans ?_
      exact List.perm_middle
theorem insR_sorted (x : Rn) : ∀ out : List Rn, out.Pairwise (fun a b => lessR b a = false) → (insR x out).Pairwise (fun a b => lessR b a = false)
  | [], _ => by simp [insR]
  | y :: l, h => by
    obtain ⟨hy, hl⟩ := List.pairwise_cons.1 h
    have key : ∀ z, lessR x y = true → lessR z y = false → lessR z x = false := by
      intro z h1 h2
      simp only [lessR, decide_eq_true_eq, decide_eq_false_iff_not] at *
      omega
    unfold insR
    split
    · rename_i hx
      refine List.pairwise_cons.2 ⟨fun z hz => ?_, h⟩
      rcases List.mem_cons.1 hz with rfl | hz
      · simp only [lessR, decide_eq_true_eq, decide_eq_false_iff_not] at *; omega
      · exact key z hx (hy z hz)
    · rename_i hx
      refine List.pairwise_cons.2 ⟨fun z hz => ?_, insR_sorted x l hl⟩
      rcases List.mem_cons.1 ((insR_perm x l).mem_iff.1 hz) with rfl | hz
      · simpa using hx
      · exact hy z hz
theorem refsI_sorted : ∀ (l : List Lab) (out : List Rn), out.Pairwise (fun a b => lessR b a = false) → (refsI l out).Pairwise (fun a b => lessR b a = false)
  | [], _, h => h
  | x :: l, out, h => by
    unfold refsI
    split
    · exact refsI_sorted l out h
    · exact refsI_sorted l _ (insR_sorted _ out h)
theorem refsI_eq (l : List Lab) : refsI l [] = refsP l := by
  have hp : (refsI l []).Perm (refsP l) := by
    have := refsI_perm l []
    rw [List.append_nil] at this
    exact this.trans (List.mergeSort_perm _ _).symm
  have h1 := refsI_sorted l [] List.Pairwise.nil
  have h2 : (refsP l).Pairwise (fun a b => lessR b a = false) := by
    have tr : ∀ a b c : Rn, (!(ltOf refC) b a) = true → (!(ltOf refC) c b) = true → (!(ltOf refC) c a) = true := by
      intro a b c q1 q2
      simp only [less_lt, Bool.not_eq_true', lessR, decide_eq_false_iff_not] at *
      omega
    have tot : ∀ a b : Rn, ((!(ltOf refC) b a) || (!(ltOf refC) a b)) = true := by
      intro a b
      simp only [less_lt, lessR, Bool.or_eq_true, Bool.not_eq_true', decide_eq_false_iff_not]
      omega
    have := List.pairwise_mergeSort (le := fun x y => !(ltOf refC) y x) tr tot (refsU l)
    exact this.imp (fun {a b} h => by simpa [less_lt] using h)
  refine List.Perm.eq_of_pairwise (le := fun a b => lessR b a = false) (fun a b _ _ q1 q2 => ?_) h1 h2 hp
  simp only [lessR, decide_eq_false_iff_not] at q1 q2
  exact Prod.ext (by omega) (by omega)

end Go.Proofs.YtcidbmldbikknaaGreatDoor

/-
  Plain: what appending writes, put onto the sectors, gives the sectors of all records. No condition but sizes.
-/
import Derived.Test.YthkpcalopmddpaaGreatDoorT32
namespace Go.Proofs.YthkpcalopmddpaaGreatDoor
open Go.RowKit Go.Sort

/-- The writes of changed sectors, from the i-th on. -/
def chgW (before : List By) : Nat → List By → List (Nat × By)
  | _, [] => []
  | i, s :: l => if before.length ≤ i ∨ before[i]? ≠ some s then (1 + i, s) :: chgW before (i + 1) l else chgW before (i + 1) l
theorem chgW_len (before : List By) : ∀ (l : List By) (i : Nat), (chgW before i l).length ≤ l.length
  | [], _ => Nat.le_refl _
  | s :: l, i => by
    have := chgW_len before l (i + 1)
    unfold chgW; split
    · rw [List.length_cons, List.length_cons]; omega
    · rw [List.length_cons]; omega
/-- What Append writes. -/
def appW (ap cnt : Nat) (Sold Snew : By) : List (Nat × By) := (0, headB ap cnt Snew.length) :: chgW (secA Sold.length Sold) 0 (secA Snew.length Snew)
/-- Sectors up to a number. -/
def padTo (out : List By) (k : Nat) : List By := out ++ List.replicate (k - out.length) (zeros 128)
theorem padTo_len (out : List By) (k : Nat) : (padTo out k).length = max out.length k := by
  unfold padTo; rw [List.length_append, List.length_replicate]; omega
theorem padTo_no {out : List By} {k : Nat} (h : k ≤ out.length) : padTo out k = out := by
  unfold padTo; rw [show k - out.length = 0 by omega]; simp
/-- What Put gives. -/
def putV : List By → List (Nat × By) → List By
  | out, [] => out
  | out, x :: ws => if 5000 < x.1 then putV out ws else putV ((padTo out (x.1 + 1)).set x.1 x.2) ws
theorem put_chg (h : By) (B : List By) : ∀ (l pre : List By), B.length ≤ pre.length + l.length → pre.length + l.length ≤ 4000 →
    putV (h :: (pre ++ B.drop pre.length)) (chgW B pre.length l) = h :: (pre ++ l)
  | [], pre, h1, _ => by
    rw [List.drop_eq_nil_of_le (by simpa using h1)]; rfl
  | s :: l, pre, h1, h2 => by
    simp only [List.length_cons] at h1 h2
    have ih := put_chg h B l (pre ++ [s]) (by rw [List.length_append, List.length_singleton]; omega) (by rw [List.length_append, List.length_singleton]; omega)
    rw [List.length_append, List.length_singleton, List.append_assoc, List.append_assoc, List.singleton_append, List.singleton_append] at ih
    unfold chgW
    by_cases hc : B.length ≤ pre.length ∨ B[pre.length]? ≠ some s
    · rw [if_pos hc, putV, if_neg (by simp only; omega)]
      rw [← ih]
      congr 1
      simp only
      by_cases hb : pre.length < B.length
      · rw [padTo_no (by simp only [List.length_cons, List.length_append, List.length_drop]; omega), Nat.add_comm, List.set_cons_succ, List.set_append_right _ _ (Nat.le_refl _), Nat.sub_self, List.drop_eq_getElem_cons hb, List.set_cons_zero]
      · have hp : padTo (h :: (pre ++ B.drop pre.length)) (1 + pre.length + 1) = h :: (pre ++ [zeros 128]) := by
          unfold padTo
          rw [List.drop_eq_nil_of_le (by omega), List.append_nil, List.length_cons, show 1 + pre.length + 1 - (pre.length + 1) = 1 by omega]
          simp
        rw [hp, Nat.add_comm, List.set_cons_succ, List.set_append_right _ _ (Nat.le_refl _), Nat.sub_self, List.set_cons_zero, List.drop_eq_nil_of_le (by omega)]
    · rw [if_neg hc]
      have hb : pre.length < B.length := by
        rcases Nat.lt_or_ge pre.length B.length with h | h
        · exact h
        · exact absurd (Or.inl h) hc
      have hs : B[pre.length]? = some s := Decidable.byContradiction fun h => hc (Or.inr h)
      rw [← ih]
      congr 2
      rw [List.drop_eq_getElem_cons hb]
      rw [List.getElem?_eq_getElem hb] at hs
      rw [Option.some.inj hs]
theorem put_app (ap cnt ap2 cnt2 : Nat) (S S2 : By) (h : (secA S.length S).length ≤ (secA S2.length S2).length) (h2 : (secA S2.length S2).length ≤ 4000) :
    putV (secsOf ap cnt S) (appW ap2 cnt2 S S2) = secsOf ap2 cnt2 S2 := by
  unfold secsOf appW
  rw [putV, if_neg (by simp only; omega), padTo_no (by simp), List.set_cons_zero]
  have := put_chg (headB ap2 cnt2 S2.length) (secA S.length S) (secA S2.length S2) [] (by simpa using h) (by simpa using h2)
  simpa using this
theorem chgW_nil : ∀ (l : List By) (i : Nat), chgW [] i l = wr1 (1 + i) l
  | [], _ => rfl
  | s :: l, i => by
    unfold chgW wr1
    rw [if_pos (Or.inl (by simp)), chgW_nil l (i + 1)]; rfl
theorem put_all (ap cnt : Nat) (S : By) (h2 : (secA S.length S).length ≤ 4000) : putV [] (writesOf ap cnt S) = secsOf ap cnt S := by
  unfold secsOf writesOf
  rw [putV, if_neg (by simp only; omega)]
  have hp : (padTo [] (0 + 1)).set 0 (headB ap cnt S.length) = [headB ap cnt S.length] := by simp [padTo]
  simp only
  rw [hp]
  have := put_chg (headB ap cnt S.length) [] (secA S.length S) [] (by simp) (by simpa using h2)
  rw [List.length_nil, chgW_nil] at this
  simpa using this
/-- The number of sectors of a stream. -/
theorem sec_mono {S S2 : By} (h : S.length ≤ S2.length) : (secA S.length S).length ≤ (secA S2.length S2).length := by
  obtain ⟨_, a2, a3, _⟩ := secA_flat S.length S (Nat.le_refl _)
  obtain ⟨_, b2, b3, _⟩ := secA_flat S2.length S2 (Nat.le_refl _)
  by_cases hz : secA S.length S = []
  · rw [hz]; simp
  · have := a3 hz
    have h1 : 0 < (secA S.length S).length := List.length_pos_iff.2 hz
    omega
theorem sec_le {S : By} {k : Nat} (h : S.length ≤ 128 * k) : (secA S.length S).length ≤ k := by
  obtain ⟨_, a2, a3, _⟩ := secA_flat S.length S (Nat.le_refl _)
  by_cases hz : secA S.length S = []
  · rw [hz]; simp
  · have := a3 hz
    have h1 : 0 < (secA S.length S).length := List.length_pos_iff.2 hz
    omega
theorem sec_count (S : By) : (secA S.length S).length = (S.length + 127) / 128 := by
  obtain ⟨_, a2, a3, _⟩ := secA_flat S.length S (Nat.le_refl _)
  by_cases hz : secA S.length S = []
  · rw [hz] at a2 ⊢; simp at a2 ⊢; rw [a2]; simp
  · have := a3 hz
    have h1 : 0 < (secA S.length S).length := List.length_pos_iff.2 hz
    omega

end Go.Proofs.YthkpcalopmddpaaGreatDoor

/-
  How a list of texts among the arguments reads, as a source of append. No condition.
-/
import Derived.Test.YthkpcalopmddpaaGreatDoorRK
import Derived.Test.YthkpcalopmddpaaGreatDoorT40
namespace Go.Proofs.YthkpcalopmddpaaGreatDoor
open Go.ChangeShapes Go.WideShapes Go.ChangeAt Go.RowKit

section
variable {H : Type} {enc : TypeId × Value → H} {w : World} {sp : Nat → Bool} {held : Bool}
theorem open_texts2 {v : Value} {d : DataW H} {ps : List MemPlace} (h : DataW.Trod enc Tryz.prog w 0 sp held 24 v d ps) (hv : ∃ a len cap, v = .slice a len cap) :
    ∃ a cap l, v = .slice a l.length cap ∧ Strs w w.heap.size a l ∧ l.length ≤ cap ∧ cap ≤ maxLen ∧ (a = none → cap = 0) := by
  obtain ⟨n, hn⟩ := h
  obtain ⟨a0, len0, cap0, rfl⟩ := hv
  have c9 : Tryz.prog.cellsOf 9 = 1 := by kernel_rfl
  rcases open_strings Tryz.underlying24 Tryz.underlying9 c9 hn with ⟨hc, _⟩ | ⟨a, len, cap, ss, hc, _, hl, hcap, hlen, _, hV, _⟩
  · simp [Value.cells] at hc
    obtain ⟨rfl, rfl, rfl⟩ := hc
    exact ⟨none, 0, [], rfl, strs_nil _ _ _, Nat.le_refl _, Nat.zero_le _, fun _ => rfl⟩
  · simp [Value.cells] at hc
    obtain ⟨rfl, rfl, rfl⟩ := hc
    have hm : len0 ≤ ss.length := by rw [hlen]; split <;> omega
    refine ⟨some a, cap0, (ss.take len0).map fun s => s.data.toList, by simp; omega, ⟨fun hne => ?_⟩, by simp; omega, hcap, fun h => by cases h⟩
    have h0 : 0 < len0 := by
      rcases Nat.eq_zero_or_pos len0 with h | h
      · subst h; simp at hne
      · exact h
    have hc0 := hV 0 (by omega)
    have e0 : a.add 0 = a := by simp [Addr.add]
    rw [e0] at hc0
    have hs : a.spot = none := by
      have h := hc0
      unfold World.cell? at h
      split at h
      · split at h
        · simp at h
        · rename_i hs; simpa using hs
      · simp at h
    obtain ⟨b, off, spot⟩ := a
    simp only at hs
    subst hs
    refine ⟨b, off, rfl, block_lt_of_cell hc0, fun i hi => ?_⟩
    rw [List.length_map, List.length_take] at hi
    have h1 := hV i (by omega)
    rw [show (⟨b, off, none⟩ : Addr).add i = ⟨b, off + i, none⟩ by unfold Addr.add; split <;> simp_all] at h1
    rw [h1]
    have h2 : i < ss.length := by omega
    simp [List.getD, h2]
end
theorem txt_arg {W : World} {a : Option Addr} {cap : Nat} {l : List By} (hs : Strs W W.heap.size a l) (hl : l.length ≤ cap) (hc : cap ≤ maxLen) (hn : a = none → cap = 0) : Txt W W.heap.size (.slice a l.length cap) l := by
  refine ⟨a, cap, rfl, hs, ?_, hl, by unfold maxLen at hc; omega⟩
  cases a with
  | none =>
    have h0 := hn rfl
    exact ⟨Or.inr ⟨rfl, h0, by omega⟩⟩
  | some p =>
    refine ⟨Or.inl ⟨p, rfl, fun hne => ?_, fun j u hj => ?_⟩⟩
    · obtain ⟨b, off, h1, h2, _⟩ := hs.cells (fun e => hne (by rw [e]; rfl))
      obtain rfl := Option.some.inj h1
      exact h2
    · have hne : l ≠ [] := fun e => by rw [e] at hj; simp at hj
      obtain ⟨b, off, h1, _, h3⟩ := hs.cells hne
      obtain rfl := Option.some.inj h1
      rw [List.getElem?_map, Option.map_eq_some_iff] at hj
      obtain ⟨x, hx, rfl⟩ := hj
      obtain ⟨hj, rfl⟩ := List.getElem?_eq_some_iff.1 hx
      rw [add_plain]
      exact h3 j hj

end Go.Proofs.YthkpcalopmddpaaGreatDoor

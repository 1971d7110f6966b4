/-
  How an argument that is a list of lists of texts reads. No condition.
-/
import Derived.Test.YthkpcalopmddpaaDoorRK
import Derived.Test.YthkpcalopmddpaaDoorT45
namespace Go.Proofs.YthkpcalopmddpaaDoor
open Go.ChangeShapes Go.WideShapes Go.ChangeAt Go.RowKit Go.Deep

section
variable {H : Type} {enc : TypeId × Value → H} {w : World} {sp : Nat → Bool} {held : Bool}
theorem open_txs {n : Nat} {v : Value} {x : DataW H × List MemPlace} (h : DataW.trod enc Tryd.prog w 0 sp held n 24 [v] = some x) : ∃ l, TxS w w.heap.size v l := by
  have c9 : Tryd.prog.cellsOf 9 = 1 := by kernel_rfl
  have hv : ∃ a len cap, v = .slice a len cap := by
    rcases open_strings Tryd.underlying24 Tryd.underlying9 c9 h with ⟨hc, _⟩ | ⟨a, len, cap, ss, hc, _⟩
    · exact ⟨none, 0, 0, by simpa using hc⟩
    · exact ⟨some a, len, cap, by simpa using hc⟩
  obtain ⟨a0, len0, cap0, rfl⟩ := hv
  obtain ⟨a, cap, l, h1, h2, h3, h4⟩ := open_texts (v := .slice a0 len0 cap0) (d := x.1) (ps := x.2) ⟨n, h⟩ ⟨_, _, _, rfl⟩
  exact ⟨l, ⟨a, cap, h1, h2, trivial, h3, by simp only [maxLen] at h4; omega⟩⟩
theorem open_grp {v : Value} {d : DataW H} {ps : List MemPlace} (h : DataW.Trod enc Tryd.prog w 0 sp held 48 v d ps) (hv : ∃ a len cap, v = .slice a len cap) :
    ∃ L, Grp w w.heap.size v L ∧ L.length ≤ maxLen := by
  obtain ⟨n, hn⟩ := h
  obtain ⟨a0, len0, cap0, rfl⟩ := hv
  have c24 : Tryd.prog.cellsOf 24 = 1 := by kernel_rfl
  rcases open_slice1 (e := 24) Tryd.underlying48 c24 hn with ⟨hc, _⟩ | ⟨a, len, cap, m, n', V, D, Pl, hc, _, hl, hcap, hm, _, hV⟩
  · simp [Value.cells] at hc
    obtain ⟨rfl, rfl, rfl⟩ := hc
    exact ⟨[], ⟨none, 0, rfl, fun h => absurd rfl h⟩, Nat.zero_le _⟩
  · simp [Value.cells] at hc
    obtain ⟨rfl, rfl, rfl⟩ := hc
    have hlm : len0 ≤ m := by subst hm; split <;> omega
    obtain ⟨Z, hZ⟩ := choose_lt (α := List By) (p := fun i z => w.cell? (a.add i) = some (V i) ∧ TxS w w.heap.size (V i) z) (n := len0) (fun i hi => by
      obtain ⟨h1, h2⟩ := hV i (by omega)
      obtain ⟨l, hx⟩ := open_txs h2
      exact ⟨l, h1, hx⟩)
    refine ⟨(List.range len0).map Z, ⟨some a, cap0, by simp, fun hne => ?_⟩, by simp; omega⟩
    have h0 : 0 < len0 := by
      rcases Nat.eq_zero_or_pos len0 with h | h
      · subst h; simp at hne
      · exact h
    have hc0 := (hZ 0 h0).1
    have e0 : a.add 0 = a := by simp [Addr.add]
    rw [e0] at hc0
    have hs : a.spot = none := by
      have h := hc0
      unfold World.cell? at h
      split at h
      · split at h
        · simp at h
        · rename_i hs; simpa using hs
      · simp at h
    obtain ⟨b, off, spot⟩ := a
    simp only at hs
    subst hs
    refine ⟨b, off, rfl, block_lt_of_cell hc0, fun i hi => ?_⟩
    rw [List.length_map, List.length_range] at hi
    have h1 := (hZ i hi).1
    rw [show (⟨b, off, none⟩ : Addr).add i = ⟨b, off + i, none⟩ by unfold Addr.add; split <;> simp_all] at h1
    exact ⟨V i, h1, by simpa using (hZ i hi).2⟩
end

end Go.Proofs.YthkpcalopmddpaaDoor

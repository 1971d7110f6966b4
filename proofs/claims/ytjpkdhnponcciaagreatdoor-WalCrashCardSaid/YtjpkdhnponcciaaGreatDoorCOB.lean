/-
  What lists of truth values and of bytes, and a single act, read as. No condition.
-/
import Derived.Test.YtjpkdhnponcciaaGreatDoorCOA
namespace Go.Proofs.YtjpkdhnponcciaaGreatDoor
open Go.ChangeShapes Go.WideShapes Go.ChangeAt Go.RowKit Go.Deep

section
variable {H : Type} {enc : TypeId × Value → H} {w : World} {sp : Nat → Bool} {held : Bool}
theorem cBool : Tryz.prog.cellsOf 4 = 1 := by kernel_rfl
theorem cByte : Tryz.prog.cellsOf 5 = 1 := by kernel_rfl
set_option maxRecDepth 100000 in
theorem open_act1 {r : Reach} {b0 : Nat} {v : Value} {d : DataW H} {ps : List MemPlace} (_hv : Value.okWide Tryz.prog w r b0 35 v) (h : DataW.Trod enc Tryz.prog w 0 sp held 35 v d ps) :
    ∃ x : AcV, v = .agg x.cs ∧ AcIn w x := by
  obtain ⟨n, hn⟩ := h
  obtain ⟨x, hx, hi⟩ := open_act0 hn
  obtain ⟨cs, rfl, _⟩ := okWide_struct Tryz.underlying35 _hv
  refine ⟨x, ?_, hi⟩
  congr 1
  exact Array.toList_inj.1 (by simpa [Value.cells] using hx)
set_option maxRecDepth 100000 in
theorem open_bools {r : Reach} {b0 : Nat} {v : Value} {d : DataW H} {ps : List MemPlace} (hv : Value.okWide Tryz.prog w r b0 51 v) (h : DataW.Trod enc Tryz.prog w 0 sp held 51 v d ps) :
    ∃ a cap T, v = .slice a T.length cap ∧ (T ≠ [] → ∃ b off, a = some ⟨b, off, none⟩ ∧ b < w.heap.size ∧ ∀ i (h : i < T.length), w.cell? ⟨b, off + i, none⟩ = some (.bool T[i])) ∧ T.length ≤ maxLen := by
  obtain ⟨n, hn⟩ := h
  obtain ⟨a0, len0, cap0, rfl⟩ := okWide_slice Tryz.underlying51 hv
  rcases open_slice (e := 4) Tryz.underlying51 hn with ⟨hc, _⟩ | ⟨a, len, cap, m, n', D, Pl, hc, _, hl, hcap, hm, _, hV⟩
  · simp [Value.cells] at hc
    obtain ⟨rfl, rfl, rfl⟩ := hc
    exact ⟨none, 0, [], rfl, fun h => absurd rfl h, Nat.zero_le _⟩
  · simp [Value.cells] at hc
    obtain ⟨rfl, rfl, rfl⟩ := hc
    have hlm : len0 ≤ m := by subst hm; split <;> omega
    obtain ⟨Z, hZ⟩ := choose_lt (α := Bool) (p := fun i x => w.cells? 0 (a.add (i * 1)) 1 = some [.bool x]) (n := len0) (fun i hi => by
      obtain ⟨cs, h1, h2⟩ := hV i (by omega)
      obtain ⟨x, e, _⟩ := DataW.trod_bool Tryz.underlying4 h2
      rw [cBool] at h1
      subst e
      exact ⟨x, h1⟩)
    refine ⟨some a, cap0, (List.range len0).map Z, by simp, fun hne => ?_, by rw [List.length_map, List.length_range]; omega⟩
    have h0 : 0 < len0 := by
      rcases Nat.eq_zero_or_pos len0 with h | h
      · subst h; simp at hne
      · exact h
    have hc0 := (World.cells?_some (hZ 0 h0)).2.2 0 (by simp)
    have e0 : (a.add (0 * 1)).add 0 = a := by simp [Addr.add]
    rw [e0] at hc0
    have hs := spot_none (v := .bool (Z 0)) hc0
    obtain ⟨b, off, spot⟩ := a
    simp only at hs
    subst hs
    refine ⟨b, off, rfl, block_lt_of_cell (v := .bool (Z 0)) hc0, fun i hi => ?_⟩
    rw [List.length_map, List.length_range] at hi
    have q := (World.cells?_some (hZ i hi)).2.2 0 (by simp)
    rw [add_plain, add_plain, Nat.mul_one, Nat.add_zero] at q
    rw [q, List.getElem_map, List.getElem_range]
    rfl
set_option maxRecDepth 100000 in
theorem open_u8s {r : Reach} {b0 : Nat} {v : Value} {d : DataW H} {ps : List MemPlace} (hv : Value.okWide Tryz.prog w r b0 70 v) (h : DataW.Trod enc Tryz.prog w 0 sp held 70 v d ps) :
    ∃ a cap, ∃ T : List Nat, v = .slice a T.length cap ∧ (T ≠ [] → ∃ b off, a = some ⟨b, off, none⟩ ∧ b < w.heap.size ∧ ∀ i (h : i < T.length), w.cell? ⟨b, off + i, none⟩ = some (.int .u8 (T[i] : Int)) ∧ T[i] ≤ 255) ∧ T.length ≤ maxLen := by
  obtain ⟨n, hn⟩ := h
  obtain ⟨a0, len0, cap0, rfl⟩ := okWide_slice Tryz.underlying70 hv
  rcases open_slice (e := 5) Tryz.underlying70 hn with ⟨hc, _⟩ | ⟨a, len, cap, m, n', D, Pl, hc, _, hl, hcap, hm, _, hV⟩
  · simp [Value.cells] at hc
    obtain ⟨rfl, rfl, rfl⟩ := hc
    exact ⟨none, 0, [], rfl, fun h => absurd rfl h, Nat.zero_le _⟩
  · simp [Value.cells] at hc
    obtain ⟨rfl, rfl, rfl⟩ := hc
    have hlm : len0 ≤ m := by subst hm; split <;> omega
    obtain ⟨Z, hZ⟩ := choose_lt (α := Nat) (p := fun i x => w.cells? 0 (a.add (i * 1)) 1 = some [.int .u8 (x : Int)] ∧ x ≤ 255) (n := len0) (fun i hi => by
      obtain ⟨cs, h1, h2⟩ := hV i (by omega)
      obtain ⟨x, e, _, wf⟩ := DataW.trod_int Tryz.underlying5 h2
      rw [cByte] at h1
      subst e
      simp only [Lit.wf, Bool.and_eq_true, decide_eq_true_eq] at wf
      have wf2 : 0 ≤ x ∧ x ≤ 255 := wf
      exact ⟨x.toNat, by rw [Int.toNat_of_nonneg wf2.1]; exact h1, by omega⟩)
    refine ⟨some a, cap0, (List.range len0).map Z, by simp, fun hne => ?_, by rw [List.length_map, List.length_range]; omega⟩
    have h0 : 0 < len0 := by
      rcases Nat.eq_zero_or_pos len0 with h | h
      · subst h; simp at hne
      · exact h
    have hc0 := (World.cells?_some (hZ 0 h0).1).2.2 0 (by simp)
    have e0 : (a.add (0 * 1)).add 0 = a := by simp [Addr.add]
    rw [e0] at hc0
    have hs := spot_none (v := .int .u8 (Z 0 : Int)) hc0
    obtain ⟨b, off, spot⟩ := a
    simp only at hs
    subst hs
    refine ⟨b, off, rfl, block_lt_of_cell (v := .int .u8 (Z 0 : Int)) hc0, fun i hi => ?_⟩
    rw [List.length_map, List.length_range] at hi
    have q := (World.cells?_some (hZ i hi).1).2.2 0 (by simp)
    rw [add_plain, add_plain, Nat.mul_one, Nat.add_zero] at q
    rw [List.getElem_map, List.getElem_range]
    exact ⟨q, (hZ i hi).2⟩
end
end Go.Proofs.YtjpkdhnponcciaaGreatDoor

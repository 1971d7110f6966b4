/-
  What an argument that is a list of contents reads as. No condition.
-/
import Derived.Test.YtckpepfkfjdnhaaGreatDoorNL0
import Derived.Test.YtckpepfkfjdnhaaGreatDoorNRA
namespace Go.Proofs.YtckpepfkfjdnhaaGreatDoor
open Go.ChangeShapes Go.WideShapes Go.ChangeAt Go.RowKit Go.Deep

section
variable {H : Type} {enc : TypeId × Value → H} {w : World} {sp : Nat → Bool} {held : Bool}
/-- What is known of a content's memory. -/
structure CoOk (w : World) (x : Co) : Prop where
  prs : Prs w w.heap.size x.a x.l ∧ x.l.length ≤ x.cap ∧ x.cap ≤ maxLen
  str : x.z.vol.length ≤ 9223372036854775807 ∧ x.z.own.length ≤ 9223372036854775807
set_option maxRecDepth 100000 in
theorem open_cons {r : Reach} {b0 : Nat} {v : Value} {d : DataW H} {ps : List MemPlace} (hv : Value.okWide Tryz.prog w r b0 58 v) (h : DataW.Trod enc Tryz.prog w 0 sp held 58 v d ps) :
    ∃ a cap cs, v = .slice a cs.length cap ∧ Cons w w.heap.size a cs ∧ ∀ x ∈ cs, x.z.vol.length ≤ 9223372036854775807 ∧ x.z.own.length ≤ 9223372036854775807 := by
  obtain ⟨n, hn⟩ := h
  obtain ⟨a0, len0, cap0, rfl⟩ := okWide_slice Tryz.underlying58 hv
  rcases open_slice (e := 26) Tryz.underlying58 hn with ⟨hc, _⟩ | ⟨a, len, cap, m, n', D, Pl, hc, _, hl, hcap, hm, _, hV⟩
  · simp [Value.cells] at hc
    obtain ⟨rfl, rfl, rfl⟩ := hc
    exact ⟨none, 0, [], rfl, cons_nil _ _ _, fun x hx => by cases hx⟩
  · simp [Value.cells] at hc
    obtain ⟨rfl, rfl, rfl⟩ := hc
    have hlm : len0 ≤ m := by subst hm; split <;> omega
    obtain ⟨Z, hZ⟩ := choose_lt (α := Co) (p := fun i x => w.cells? 0 (a.add (i * 23)) 23 = some x.cs.toList ∧ CoOk w x) (n := len0) (fun i hi => by
      obtain ⟨cs, h1, h2⟩ := hV i (by omega)
      obtain ⟨z, org, fmt, len, blk, ap, xa, xc, l, rfl, hp, hc1, hc2, hvo, how⟩ := open_con0 h2
      rw [cCon] at h1
      exact ⟨⟨z, org, fmt, len, blk, ap, xa, xc, l⟩, h1, ⟨⟨hp, hc1, hc2⟩, hvo, how⟩⟩)
    refine ⟨some a, cap0, (List.range len0).map Z, by simp, ⟨fun hne => ?_, fun x hx => ?_⟩, fun x hx => ?_⟩
    · have h0 : 0 < len0 := by
        rcases Nat.eq_zero_or_pos len0 with h | h
        · subst h; simp at hne
        · exact h
      have hc0 := (World.cells?_some (hZ 0 h0).1).2.2 0 (by simp)
      have e0 : (a.add (0 * 23)).add 0 = a := by simp [Addr.add]
      rw [e0] at hc0
      have hs := spot_none (v := .int .i64 (Z 0).z.id) hc0
      obtain ⟨b, off, spot⟩ := a
      simp only at hs
      subst hs
      refine ⟨b, off, rfl, block_lt_of_cell (v := .int .i64 (Z 0).z.id) hc0, fun i hi j v hj => ?_⟩
      rw [List.length_map, List.length_range] at hi
      have hj2 : j < 23 := by
        have := (List.getElem?_eq_some_iff.1 hj).1
        simpa using this
      have q := (World.cells?_some (hZ i hi).1).2.2 j hj2
      rw [add_plain, add_plain] at q
      rw [q]
      rw [List.getElem_map, List.getElem_range] at hj
      exact hj
    · obtain ⟨i, hi, rfl⟩ := List.mem_map.1 hx
      exact (hZ i (List.mem_range.1 hi)).2.prs
    · obtain ⟨i, hi, rfl⟩ := List.mem_map.1 hx
      exact (hZ i (List.mem_range.1 hi)).2.str
end

end Go.Proofs.YtckpepfkfjdnhaaGreatDoor

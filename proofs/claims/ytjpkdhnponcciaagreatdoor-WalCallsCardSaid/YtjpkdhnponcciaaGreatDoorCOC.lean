/-
  What a list of acts reads as, with the room of nil changes. No condition.
-/
import Derived.Test.YtjpkdhnponcciaaGreatDoorCOA
namespace Go.Proofs.YtjpkdhnponcciaaGreatDoor
open Go.ChangeShapes Go.WideShapes Go.ChangeAt Go.RowKit Go.Deep

section
variable {H : Type} {enc : TypeId × Value → H} {w : World} {sp : Nat → Bool} {held : Bool}
theorem nil_chs {n : Nat} {a : Option Addr} {len cap : Nat} {x : DataW H × List MemPlace} (h : DataW.trod enc Tryz.prog w 0 sp held n 33 [.slice a len cap] = some x) : a = none → cap = 0 := by
  rintro rfl
  rcases open_slice (e := 94) Tryz.underlying33 h with ⟨hc, _⟩ | ⟨a, len, cap, m, n', D, Pl, hc, _⟩
  · simp at hc; exact hc.2
  · simp at hc
set_option maxRecDepth 100000 in
theorem open_act3 {n : Nat} {cs : List Value} {x : DataW H × List MemPlace} (h : DataW.trod enc Tryz.prog w 0 sp held n 35 cs = some x) :
    ∃ r : AcV, cs = r.cs.toList ∧ AcIn w r ∧ (r.a = none → r.cap = 0) := by
  obtain ⟨r, e, hr⟩ := open_act0 h
  refine ⟨r, e, hr, ?_⟩
  subst e
  obtain ⟨xs, m, _, _, hl, hlen, hf⟩ := DataW.trod_struct Tryz.underlying35 h
  rw [cAct] at hl
  match xs, hlen with
  | [u0, u1, u2, u3], _ =>
    have g3 := hf 3 _ rfl
    simp [cChgs] at g3
    exact nil_chs g3
set_option maxRecDepth 100000 in
theorem open_acts3 {r : Reach} {b0 : Nat} {v : Value} {d : DataW H} {ps : List MemPlace} (hv : Value.okWide Tryz.prog w r b0 22 v) (h : DataW.Trod enc Tryz.prog w 0 sp held 22 v d ps) :
    ∃ a cap R, v = .slice a R.length cap ∧ Acts w w.heap.size a R ∧ (∀ x ∈ R, (I64 x.kind ∧ I64 x.n) ∧ ∀ c ∈ x.l, I64 c.kind) ∧ ∀ x ∈ R, x.a = none → x.cap = 0 := by
  obtain ⟨n, hn⟩ := h
  obtain ⟨a0, len0, cap0, rfl⟩ := okWide_slice Tryz.underlying22 hv
  rcases open_slice (e := 35) Tryz.underlying22 hn with ⟨hc, _⟩ | ⟨a, len, cap, m, n', D, Pl, hc, _, hl, hcap, hm, _, hV⟩
  · simp [Value.cells] at hc
    obtain ⟨rfl, rfl, rfl⟩ := hc
    exact ⟨none, 0, [], rfl, ⟨fun h => absurd rfl h, fun x hx => by cases hx⟩, (fun x hx => by cases hx), fun x hx => by cases hx⟩
  · simp [Value.cells] at hc
    obtain ⟨rfl, rfl, rfl⟩ := hc
    have hlm : len0 ≤ m := by subst hm; split <;> omega
    obtain ⟨Z, hZ⟩ := choose_lt (α := AcV) (p := fun i x => w.cells? 0 (a.add (i * 4)) 4 = some x.cs.toList ∧ AcIn w x ∧ (x.a = none → x.cap = 0)) (n := len0) (fun i hi => by
      obtain ⟨cs, h1, h2⟩ := hV i (by omega)
      obtain ⟨x, rfl, hc1⟩ := open_act3 h2
      rw [cAct] at h1
      exact ⟨x, h1, hc1⟩)
    refine ⟨some a, cap0, (List.range len0).map Z, by simp, ⟨fun hne => ?_, fun x hx => ?_⟩, fun x hx => ?_, fun x hx => ?_⟩
    · have h0 : 0 < len0 := by
        rcases Nat.eq_zero_or_pos len0 with h | h
        · subst h; simp at hne
        · exact h
      have hc0 := (World.cells?_some (hZ 0 h0).1).2.2 0 (by simp)
      have e0 : (a.add (0 * 4)).add 0 = a := by simp [Addr.add]
      rw [e0] at hc0
      have hs := spot_none (v := .int .i64 (Z 0).kind) hc0
      obtain ⟨b, off, spot⟩ := a
      simp only at hs
      subst hs
      refine ⟨b, off, rfl, block_lt_of_cell (v := .int .i64 (Z 0).kind) hc0, fun i hi j v hj => ?_⟩
      rw [List.length_map, List.length_range] at hi
      have hj2 : j < 4 := by
        have := (List.getElem?_eq_some_iff.1 hj).1
        simpa using this
      have q := (World.cells?_some (hZ i hi).1).2.2 j hj2
      rw [add_plain, add_plain] at q
      rw [q]
      rw [List.getElem_map, List.getElem_range] at hj
      exact hj
    · obtain ⟨i, hi, rfl⟩ := List.mem_map.1 hx
      exact (hZ i (List.mem_range.1 hi)).2.1.chs
    · obtain ⟨i, hi, rfl⟩ := List.mem_map.1 hx
      exact (hZ i (List.mem_range.1 hi)).2.1.i64
    · obtain ⟨i, hi, rfl⟩ := List.mem_map.1 hx
      exact (hZ i (List.mem_range.1 hi)).2.2
end
end Go.Proofs.YtjpkdhnponcciaaGreatDoor

/-
  What an argument that is a report reads as. No condition.
-/
import Derived.Test.YtcidbmldbikknaaGreatDoorK1
namespace Go.Proofs.YtcidbmldbikknaaGreatDoor
open Go.ChangeShapes Go.WideShapes Go.ChangeAt Go.RowKit Go.Deep

section
variable {H : Type} {enc : TypeId × Value → H} {w : World} {sp : Nat → Bool} {held : Bool}
theorem cRef : Tryz.prog.cellsOf 40 = 2 := by kernel_rfl
theorem cRefs : Tryz.prog.cellsOf 25 = 1 := by kernel_rfl
theorem cInts : Tryz.prog.cellsOf 26 = 1 := by kernel_rfl
theorem cBd : Tryz.prog.cellsOf 61 = 4 := by kernel_rfl
theorem cBds : Tryz.prog.cellsOf 27 = 1 := by kernel_rfl
theorem cErr : Tryz.prog.cellsOf 59 = 1 := by kernel_rfl
theorem cSc : Tryz.prog.cellsOf 29 = 5 := by kernel_rfl

set_option maxRecDepth 100000 in
theorem open_ref {n : Nat} {cs : List Value} {x : DataW H × List MemPlace} (h : DataW.trod enc Tryz.prog w 0 sp held n 40 cs = some x) :
    ∃ r : Rn, cs = [.int .i64 r.1, .int .i64 r.2] ∧ okRn r := by
  obtain ⟨xs, m, _, _, hl, hlen, hf⟩ := DataW.trod_struct Tryz.underlying40 h
  rw [cRef] at hl
  match cs, hl, xs, hlen with
  | [c0, c1], _, [y0, y1], _ =>
    have f0 := hf 0 _ rfl
    have f1 := hf 1 _ rfl
    simp [cInt] at f0 f1
    obtain ⟨k0, e0, _, w0⟩ := DataW.trod_int Tryz.underlying3 f0
    obtain ⟨k1, e1, _, w1⟩ := DataW.trod_int Tryz.underlying3 f1
    simp at e0 e1
    subst e0 e1
    exact ⟨(k0, k1), rfl, okI_of w0, okI_of w1⟩
theorem open_refs {n : Nat} {v : Value} {x : DataW H × List MemPlace} (h : DataW.trod enc Tryz.prog w 0 sp held n 25 [v] = some x) :
    ∃ a cap l, v = .slice a l.length cap ∧ Runs w w.heap.size a l ∧ l.length ≤ maxLen := by
  rcases open_slice (e := 40) Tryz.underlying25 h with ⟨hc, _⟩ | ⟨a, len, cap, m, n', D, Pl, hc, _, hl, hcap, hm, _, hV⟩
  · obtain rfl : v = .slice none 0 0 := by simpa using hc
    exact ⟨none, 0, [], rfl, runs_nil _ _ _, Nat.zero_le _⟩
  · obtain rfl : v = .slice (some a) len cap := by simpa using hc
    have hlm : len ≤ m := by subst hm; split <;> omega
    obtain ⟨Z, hZ⟩ := choose_lt (α := Rn) (p := fun i r => w.cells? 0 (a.add (i * 2)) 2 = some [.int .i64 r.1, .int .i64 r.2] ∧ okRn r) (n := len) (fun i hi => by
      obtain ⟨cs, h1, h2⟩ := hV i (by omega)
      obtain ⟨r, rfl, hr⟩ := open_ref h2
      rw [cRef] at h1
      exact ⟨r, h1, hr⟩)
    refine ⟨some a, cap, (List.range len).map Z, by simp, ⟨fun hne => ?_, fun r hr => ?_⟩, by simp; omega⟩
    · have h0 : 0 < len := by
        rcases Nat.eq_zero_or_pos len with h | h
        · subst h; simp at hne
        · exact h
      have hc0 := (World.cells?_some (hZ 0 h0).1).2.2 0 (by omega)
      have e0 : (a.add (0 * 2)).add 0 = a := by simp [Addr.add]
      rw [e0] at hc0
      have hs := spot_none (v := .int .i64 (Z 0).1) hc0
      obtain ⟨b, off, spot⟩ := a
      simp only at hs
      subst hs
      refine ⟨b, off, rfl, block_lt_of_cell (v := .int .i64 (Z 0).1) hc0, fun i hi => ?_⟩
      rw [List.length_map, List.length_range] at hi
      have q := (World.cells?_some (hZ i hi).1).2.2
      have q0 := q 0 (by omega)
      have q1 := q 1 (by omega)
      rw [add_plain, add_plain] at q0 q1
      refine ⟨?_, ?_⟩
      · rw [Nat.add_zero] at q0; rw [q0]; simp
      · rw [q1]; simp
    · obtain ⟨i, hi, rfl⟩ := List.mem_map.1 hr
      exact (hZ i (List.mem_range.1 hi)).2
theorem open_ints {n : Nat} {v : Value} {x : DataW H × List MemPlace} (h : DataW.trod enc Tryz.prog w 0 sp held n 26 [v] = some x) :
    ∃ a cap l, v = .slice a l.length cap ∧ IntsAt w w.heap.size a l ∧ (∀ k ∈ l, okI k) ∧ l.length ≤ maxLen := by
  rcases open_slice1 (e := 3) Tryz.underlying26 cInt h with ⟨hc, _⟩ | ⟨a, len, cap, m, n', V, D, Pl, hc, _, hl, hcap, hm, _, hV⟩
  · obtain rfl : v = .slice none 0 0 := by simpa using hc
    exact ⟨none, 0, [], rfl, ⟨fun h => absurd rfl h⟩, fun k hk => (by cases hk), Nat.zero_le _⟩
  · obtain rfl : v = .slice (some a) len cap := by simpa using hc
    have hlm : len ≤ m := by subst hm; split <;> omega
    obtain ⟨Z, hZ⟩ := choose_lt (α := Int) (p := fun i z => w.cell? (a.add i) = some (.int .i64 z) ∧ okI z) (n := len) (fun i hi => by
      obtain ⟨h1, h2⟩ := hV i (by omega)
      obtain ⟨z, e, _, hw⟩ := DataW.trod_int Tryz.underlying3 h2
      rw [show V i = .int .i64 z by simpa using e] at h1
      exact ⟨z, h1, okI_of hw⟩)
    refine ⟨some a, cap, (List.range len).map Z, by simp, ⟨fun hne => ?_⟩, fun k hk => ?_, by simp; omega⟩
    · have h0 : 0 < len := by
        rcases Nat.eq_zero_or_pos len with h | h
        · subst h; simp at hne
        · exact h
      have hc0 := (hZ 0 h0).1
      have e0 : a.add 0 = a := by simp [Addr.add]
      rw [e0] at hc0
      have hs := spot_none hc0
      obtain ⟨b, off, spot⟩ := a
      simp only at hs
      subst hs
      refine ⟨b, off, rfl, block_lt_of_cell hc0, fun i hi => ?_⟩
      rw [List.length_map, List.length_range] at hi
      have q := (hZ i hi).1
      rw [add_plain] at q
      rw [q]; simp
    · obtain ⟨i, hi, rfl⟩ := List.mem_map.1 hk
      exact (hZ i (List.mem_range.1 hi)).2

instance : Inhabited Bd := ⟨⟨0, 0, 0, 0⟩⟩
set_option maxRecDepth 100000 in
theorem open_bd {n : Nat} {cs : List Value} {x : DataW H × List MemPlace} (h : DataW.trod enc Tryz.prog w 0 sp held n 61 cs = some x) :
    ∃ r : Bd, cs = [.int .i64 r.id, .int .i64 r.unit, .int .i64 r.sector, .int .i64 r.code] ∧ okBd r := by
  obtain ⟨xs, m, _, _, hl, hlen, hf⟩ := DataW.trod_struct Tryz.underlying61 h
  rw [cBd] at hl
  match cs, hl, xs, hlen with
  | [c0, c1, c2, c3], _, [y0, y1, y2], _ =>
    have f0 := hf 0 _ rfl
    have f1 := hf 1 _ rfl
    have f2 := hf 2 _ rfl
    simp [cInt, cRef, cErr] at f0 f1 f2
    obtain ⟨r, e0, hr⟩ := open_ref f0
    obtain ⟨k1, e1, _, w1⟩ := DataW.trod_int Tryz.underlying3 f1
    obtain ⟨k2, e2, _, w2⟩ := DataW.trod_int Tryz.underlying59 f2
    simp at e0 e1 e2
    obtain ⟨rfl, rfl⟩ := e0
    subst e1 e2
    exact ⟨⟨r.1, r.2, k1, k2⟩, rfl, hr.1, hr.2, okI_of w1, okI_of w2⟩
theorem open_bds {n : Nat} {v : Value} {x : DataW H × List MemPlace} (h : DataW.trod enc Tryz.prog w 0 sp held n 27 [v] = some x) :
    ∃ a cap l, v = .slice a l.length cap ∧ Bads w w.heap.size a l ∧ l.length ≤ maxLen := by
  rcases open_slice (e := 61) Tryz.underlying27 h with ⟨hc, _⟩ | ⟨a, len, cap, m, n', D, Pl, hc, _, hl, hcap, hm, _, hV⟩
  · obtain rfl : v = .slice none 0 0 := by simpa using hc
    exact ⟨none, 0, [], rfl, bads_nil _ _ _, Nat.zero_le _⟩
  · obtain rfl : v = .slice (some a) len cap := by simpa using hc
    have hlm : len ≤ m := by subst hm; split <;> omega
    obtain ⟨Z, hZ⟩ := choose_lt (α := Bd) (p := fun i r => w.cells? 0 (a.add (i * 4)) 4 = some [.int .i64 r.id, .int .i64 r.unit, .int .i64 r.sector, .int .i64 r.code] ∧ okBd r) (n := len) (fun i hi => by
      obtain ⟨cs, h1, h2⟩ := hV i (by omega)
      obtain ⟨r, rfl, hr⟩ := open_bd h2
      rw [cBd] at h1
      exact ⟨r, h1, hr⟩)
    refine ⟨some a, cap, (List.range len).map Z, by simp, ⟨fun hne => ?_, fun r hr => ?_⟩, by simp; omega⟩
    · have h0 : 0 < len := by
        rcases Nat.eq_zero_or_pos len with h | h
        · subst h; simp at hne
        · exact h
      have hc0 := (World.cells?_some (hZ 0 h0).1).2.2 0 (by omega)
      have e0 : (a.add (0 * 4)).add 0 = a := by simp [Addr.add]
      rw [e0] at hc0
      have hs := spot_none (v := .int .i64 (Z 0).id) hc0
      obtain ⟨b, off, spot⟩ := a
      simp only at hs
      subst hs
      refine ⟨b, off, rfl, block_lt_of_cell (v := .int .i64 (Z 0).id) hc0, fun i hi => ?_⟩
      rw [List.length_map, List.length_range] at hi
      have q := (World.cells?_some (hZ i hi).1).2.2
      have q0 := q 0 (by omega)
      have q1 := q 1 (by omega)
      have q2 := q 2 (by omega)
      have q3 := q 3 (by omega)
      rw [add_plain, add_plain] at q0 q1 q2 q3
      rw [Nat.add_zero] at q0
      rw [List.getElem_map, List.getElem_range]
      exact ⟨q0, q1, q2, q3⟩
    · obtain ⟨i, hi, rfl⟩ := List.mem_map.1 hr
      exact (hZ i (List.mem_range.1 hi)).2

set_option maxRecDepth 100000 in
theorem open_scrub {r : Reach} {b0 : Nat} {v : Value} {d : DataW H} {ps : List MemPlace} (hv : Value.okWide Tryz.prog w r b0 29 v) (h : DataW.Trod enc Tryz.prog w 0 sp held 29 v d ps) :
    ∃ (f u : Int) (ta : Option Addr) (tc : Nat) (sa : Option Addr) (sc : Nat) (ba : Option Addr) (bc : Nat) (te : List Rn) (sh : List Int) (bd : List Bd), v = .agg (scC f u ta te.length tc sa sh.length sc ba bd.length bc) ∧
      okI f ∧ okI u ∧ Runs w w.heap.size ta te ∧ IntsAt w w.heap.size sa sh ∧ Bads w w.heap.size ba bd ∧ (∀ k ∈ sh, okI k) ∧ te.length ≤ maxLen ∧ sh.length ≤ maxLen ∧ bd.length ≤ maxLen := by
  obtain ⟨cs0, rfl, hsz⟩ := okWide_struct Tryz.underlying29 hv
  obtain ⟨n, hn⟩ := h
  obtain ⟨xs, m, _, _, hl, hlen, hf⟩ := DataW.trod_struct Tryz.underlying29 hn
  obtain ⟨cs⟩ := cs0
  rw [cSc] at hl
  simp only [Value.cells] at hl hf
  match cs, hl, xs, hlen with
  | [c0, c1, c2, c3, c4], _, [y0, y1, y2, y3, y4], _ =>
    have f0 := hf 0 _ rfl
    have f1 := hf 1 _ rfl
    have f2 := hf 2 _ rfl
    have f3 := hf 3 _ rfl
    have f4 := hf 4 _ rfl
    simp [cInt, cRefs, cInts, cBds] at f0 f1 f2 f3 f4
    obtain ⟨k0, e0, _, w0⟩ := DataW.trod_int Tryz.underlying3 f0
    obtain ⟨k1, e1, _, w1⟩ := DataW.trod_int Tryz.underlying3 f1
    obtain ⟨ta, tc, te, e2, hR, m2⟩ := open_refs f2
    obtain ⟨sa, sc, sh, e3, hI, hko, m3⟩ := open_ints f3
    obtain ⟨ba, bc, bd, e4, hD, m4⟩ := open_bds f4
    simp at e0 e1
    subst e0 e1 e2 e3 e4
    exact ⟨k0, k1, ta, tc, sa, sc, ba, bc, te, sh, bd, rfl, okI_of w0, okI_of w1, hR, hI, hD, hko, m2, m3, m4⟩
end

end Go.Proofs.YtcidbmldbikknaaGreatDoor

/-
  What the laws' arguments and the laid tables read as. No condition.
-/
import Derived.Test.YtjpkdhnponcciaaGreatDoorCQ
import Derived.Test.YtjpkdhnponcciaaGreatDoorRows
import Derived.ProofKit
import Derived.OpenShut
import Derived.ShutString
import Derived.ChangeOld
import Derived.Below
import Derived.LaidMore
import Derived.LaidSub
import Derived.Stop.Joined
import Derived.Lib.SmallJoins
import Derived.Deep.Slices
namespace Go.Proofs.YtjpkdhnponcciaaGreatDoor
open Go.ChangeShapes Go.WideShapes Go.ChangeAt Go.RowKit Go.Deep

theorem own_knob : ownKnob Tryz.prog.godebug = none := by kernel_rfl
theorem laid_out : laidOutB Tryz.prog = true := by kernel_rfl

theorem spot_none {w : World} {x : Addr} {v : Value} (h : w.cell? x = some v) : x.spot = none := by
  unfold World.cell? at h
  split at h
  · split at h
    · simp at h
    · rename_i hs; simpa using hs
  · simp at h
section
variable {H : Type} {enc : TypeId × Value → H} {w : World} {sp : Nat → Bool} {held : Bool}
theorem cInt : Tryz.prog.cellsOf 3 = 1 := by kernel_rfl
theorem cStr : Tryz.prog.cellsOf 9 = 1 := by kernel_rfl
theorem cChg : Tryz.prog.cellsOf 94 = 5 := by kernel_rfl
theorem cChgs : Tryz.prog.cellsOf 33 = 1 := by kernel_rfl

set_option maxRecDepth 100000 in
theorem open_ch {n : Nat} {cs : List Value} {x : DataW H × List MemPlace} (h : DataW.trod enc Tryz.prog w 0 sp held n 94 cs = some x) :
    ∃ c : Ch, cs = c.cs.toList ∧ I64 c.kind := by
  obtain ⟨xs, m, _, _, hl, hlen, hg⟩ := DataW.trod_struct Tryz.underlying94 h
  rw [cChg] at hl
  match cs, hl, xs, hlen with
  | [c0, c1, c2, c3, c4], _, [u0, u1, u2, u3, u4], _ =>
    have g0 := hg 0 _ rfl
    have g1 := hg 1 _ rfl
    have g2 := hg 2 _ rfl
    have g3 := hg 3 _ rfl
    have g4 := hg 4 _ rfl
    simp [cInt, cStr] at g0 g1 g2 g3 g4
    obtain ⟨k1, e1, _, w1⟩ := DataW.trod_int Tryz.underlying3 g0
    obtain ⟨k2, e2, _, w2⟩ := DataW.trod_int Tryz.underlying3 g1
    obtain ⟨k3, e3, _, w3⟩ := DataW.trod_string Tryz.underlying9 g2
    obtain ⟨k4, e4, _, w4⟩ := DataW.trod_string Tryz.underlying9 g3
    obtain ⟨k5, e5, _, w5⟩ := DataW.trod_string Tryz.underlying9 g4
    simp at e1 e2 e3 e4 e5
    subst e1 e2 e3 e4 e5
    exact ⟨⟨k1, k2, k3.data.toList, k4.data.toList, k5.data.toList⟩, rfl, w1⟩
set_option maxRecDepth 100000 in
theorem open_chs {n : Nat} {v : Value} {x : DataW H × List MemPlace} (h : DataW.trod enc Tryz.prog w 0 sp held n 33 [v] = some x) :
    ∃ a cap l, v = .slice a l.length cap ∧ Chs w w.heap.size a l ∧ l.length ≤ cap ∧ cap ≤ maxLen ∧ ∀ c ∈ l, I64 c.kind := by
  rcases open_slice (e := 94) Tryz.underlying33 h with ⟨hc, _⟩ | ⟨a, len, cap, m, n', D, Pl, hc, _, hl, hcap, hm, _, hV⟩
  · obtain rfl : v = .slice none 0 0 := by simpa using hc
    exact ⟨none, 0, [], rfl, ⟨fun h => absurd rfl h⟩, Nat.zero_le _, Nat.zero_le _, fun c hc => by cases hc⟩
  · obtain rfl : v = .slice (some a) len cap := by simpa using hc
    have hlm : len ≤ m := by subst hm; split <;> omega
    obtain ⟨Z, hZ⟩ := choose_lt (α := Ch) (p := fun i r => w.cells? 0 (a.add (i * 5)) 5 = some r.cs.toList ∧ I64 r.kind) (n := len) (fun i hi => by
      obtain ⟨cs, h1, h2⟩ := hV i (by omega)
      obtain ⟨r, rfl, hk⟩ := open_ch h2
      rw [cChg] at h1
      exact ⟨r, h1, hk⟩)
    refine ⟨some a, cap, (List.range len).map Z, by simp, ⟨fun hne => ?_⟩, by simpa using hl, hcap, fun c hc => ?_⟩
    · have h0 : 0 < len := by
        rcases Nat.eq_zero_or_pos len with h | h
        · subst h; simp at hne
        · exact h
      have hc0 := (World.cells?_some (hZ 0 h0).1).2.2 0 (by simp)
      have e0 : (a.add (0 * 5)).add 0 = a := by simp [Addr.add]
      rw [e0] at hc0
      have hs := spot_none (v := .int .i64 (Z 0).kind) hc0
      obtain ⟨b, off, spot⟩ := a
      simp only at hs
      subst hs
      refine ⟨b, off, rfl, block_lt_of_cell (v := .int .i64 (Z 0).kind) hc0, fun i hi => ?_⟩
      rw [List.length_map, List.length_range] at hi
      have q := (World.cells?_some (hZ i hi).1).2.2
      have q0 := q 0 (by simp)
      have q1 := q 1 (by simp)
      have q2 := q 2 (by simp)
      have q3 := q 3 (by simp)
      have q4 := q 4 (by simp)
      rw [add_plain, add_plain] at q0 q1 q2 q3 q4
      rw [Nat.add_zero] at q0
      rw [List.getElem_map, List.getElem_range]
      exact ⟨q0, q1, q2, q3, q4⟩
    · obtain ⟨i, hi, rfl⟩ := List.mem_map.1 hc
      exact (hZ i (List.mem_range.1 hi)).2
theorem cAct : Tryz.prog.cellsOf 35 = 4 := by kernel_rfl
instance : Inhabited AcV := ⟨⟨0, 0, 0, none, 0, []⟩⟩
/-- What an act that is read is. -/
structure AcIn (w : World) (x : AcV) : Prop where
  chs : Chs w w.heap.size x.a x.l ∧ x.l.length ≤ x.cap ∧ x.cap ≤ maxLen
  i64 : (I64 x.kind ∧ I64 x.n) ∧ ∀ c ∈ x.l, I64 c.kind
set_option maxRecDepth 100000 in
theorem open_act0 {n : Nat} {cs : List Value} {x : DataW H × List MemPlace} (h : DataW.trod enc Tryz.prog w 0 sp held n 35 cs = some x) :
    ∃ r : AcV, cs = r.cs.toList ∧ AcIn w r := by
  obtain ⟨xs, m, _, _, hl, hlen, hf⟩ := DataW.trod_struct Tryz.underlying35 h
  rw [cAct] at hl
  match cs, hl, xs, hlen with
  | [c0, c1, c2, c3], _, [u0, u1, u2, u3], _ =>
    have g0 := hf 0 _ rfl
    have g1 := hf 1 _ rfl
    have g2 := hf 2 _ rfl
    have g3 := hf 3 _ rfl
    simp [cInt, cChgs] at g0 g1 g2 g3
    obtain ⟨k0, e0, _, w0⟩ := DataW.trod_int Tryz.underlying3 g0
    obtain ⟨k1, e1, _, w1⟩ := DataW.trod_int Tryz.underlying3 g1
    obtain ⟨k2, e2, _, w2⟩ := DataW.trod_int Tryz.underlying3 g2
    obtain ⟨a, cap, l, e3, h1, h2, h3, h4⟩ := open_chs g3
    simp at e0 e1 e2
    subst e0 e1 e2 e3
    exact ⟨⟨k0, k1, k2, a, cap, l⟩, rfl, ⟨h1, h2, h3⟩, ⟨w0, w1⟩, h4⟩
set_option maxRecDepth 100000 in
theorem open_acts {r : Reach} {b0 : Nat} {v : Value} {d : DataW H} {ps : List MemPlace} (hv : Value.okWide Tryz.prog w r b0 22 v) (h : DataW.Trod enc Tryz.prog w 0 sp held 22 v d ps) :
    ∃ a cap R, v = .slice a R.length cap ∧ Acts w w.heap.size a R ∧ ∀ x ∈ R, (I64 x.kind ∧ I64 x.n) ∧ ∀ c ∈ x.l, I64 c.kind := by
  obtain ⟨n, hn⟩ := h
  obtain ⟨a0, len0, cap0, rfl⟩ := okWide_slice Tryz.underlying22 hv
  rcases open_slice (e := 35) Tryz.underlying22 hn with ⟨hc, _⟩ | ⟨a, len, cap, m, n', D, Pl, hc, _, hl, hcap, hm, _, hV⟩
  · simp [Value.cells] at hc
    obtain ⟨rfl, rfl, rfl⟩ := hc
    exact ⟨none, 0, [], rfl, ⟨fun h => absurd rfl h, fun x hx => by cases hx⟩, fun x hx => by cases hx⟩
  · simp [Value.cells] at hc
    obtain ⟨rfl, rfl, rfl⟩ := hc
    have hlm : len0 ≤ m := by subst hm; split <;> omega
    obtain ⟨Z, hZ⟩ := choose_lt (α := AcV) (p := fun i x => w.cells? 0 (a.add (i * 4)) 4 = some x.cs.toList ∧ AcIn w x) (n := len0) (fun i hi => by
      obtain ⟨cs, h1, h2⟩ := hV i (by omega)
      obtain ⟨x, rfl, hc1⟩ := open_act0 h2
      rw [cAct] at h1
      exact ⟨x, h1, hc1⟩)
    refine ⟨some a, cap0, (List.range len0).map Z, by simp, ⟨fun hne => ?_, fun x hx => ?_⟩, fun x hx => ?_⟩
    · have h0 : 0 < len0 := by
        rcases Nat.eq_zero_or_pos len0 with h | h
        · subst h; simp at hne
        · exact h
      have hc0 := (World.cells?_some (hZ 0 h0).1).2.2 0 (by simp)
      have e0 : (a.add (0 * 4)).add 0 = a := by simp [Addr.add]
      rw [e0] at hc0
      have hs := spot_none (v := .int .i64 (Z 0).kind) hc0
      obtain ⟨b, off, spot⟩ := a
      simp only at hs
      subst hs
      refine ⟨b, off, rfl, block_lt_of_cell (v := .int .i64 (Z 0).kind) hc0, fun i hi j v hj => ?_⟩
      rw [List.length_map, List.length_range] at hi
      have hj2 : j < 4 := by
        have := (List.getElem?_eq_some_iff.1 hj).1
        simpa using this
      have q := (World.cells?_some (hZ i hi).1).2.2 j hj2
      rw [add_plain, add_plain] at q
      rw [q]
      rw [List.getElem_map, List.getElem_range] at hj
      exact hj
    · obtain ⟨i, hi, rfl⟩ := List.mem_map.1 hx
      exact (hZ i (List.mem_range.1 hi)).2.chs
    · obtain ⟨i, hi, rfl⟩ := List.mem_map.1 hx
      exact (hZ i (List.mem_range.1 hi)).2.i64
end
abbrev laidC {H : Type} : List (String × DataW H) := [("math/bits.deBruijn32tab", Rows.laid_math_bits_deBruijn32tab), ("math/bits.deBruijn64tab", Rows.laid_math_bits_deBruijn64tab), ("internal/strconv.uint64pow10", Rows.laid_internal_strconv_uint64pow10)]
theorem door_met (os : Os) (args : Array Value) : laidMetH Tryz.prog laidC ((World.doorLaid Tryz.prog 400 os).forCall (fun _ _ => 0) ⟨#[], args, []⟩).memory :=
  laidMetH_of_parts3 (fuel := 8) (laidMet_of_run' 8 (by kernel_rfl) (by kernel_rfl)) (by kernel_rfl) (by kernel_rfl)
end Go.Proofs.YtjpkdhnponcciaaGreatDoor

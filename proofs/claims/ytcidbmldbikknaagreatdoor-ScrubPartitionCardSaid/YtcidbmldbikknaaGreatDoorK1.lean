/-
  What the arguments and the laid tables read as. No condition.
-/
import Derived.Test.YtcidbmldbikknaaGreatDoorE26
import Derived.Test.YtcidbmldbikknaaGreatDoorE13
import Derived.Test.YtcidbmldbikknaaGreatDoorRows
import Derived.ProofKit
import Derived.OpenShut
import Derived.ShutString
import Derived.ChangeOld
import Derived.Below
import Derived.LaidMore
import Derived.LaidSub
import Derived.Lib.LaidTab
import Derived.Stop.Joined
import Derived.Lib.SmallJoins
import Derived.Deep.Slices
namespace Go.Proofs.YtcidbmldbikknaaGreatDoor
open Go.ChangeShapes Go.WideShapes Go.ChangeAt Go.RowKit Go.Deep

theorem own_knob : ownKnob Tryz.prog.godebug = none := by kernel_rfl
theorem laid_out : laidOutB Tryz.prog = true := by kernel_rfl
abbrev laidC {H : Type} : List (String × DataW H) := [("math/bits.deBruijn32tab", Rows.laid_math_bits_deBruijn32tab), ("math/bits.deBruijn64tab", Rows.laid_math_bits_deBruijn64tab), ("internal/strconv.uint64pow10", Rows.laid_internal_strconv_uint64pow10)]
theorem gPow : Tryz.prog.globalNamed "internal/strconv.uint64pow10" = some 0 := by kernel_rfl
theorem tPow : (Tryz.prog.globals[0]?).map (·.type) = some 151 := by kernel_rfl
theorem door_met (os : Os) (args : Array Value) : laidMetH Tryz.prog laidC ((World.doorLaid Tryz.prog 400 os).forCall (fun _ _ => 0) ⟨#[], args, []⟩).memory :=
  laidMetH_of_parts3 (fuel := 8) (laidMet_of_run' 8 (by kernel_rfl) (by kernel_rfl)) (by kernel_rfl) (by kernel_rfl)
theorem tab_of_laid {W : World} (h : laidMetH Tryz.prog laidC W) : TabB W.heap.size W := by
  have h1 := h.filter (fun x => x.1 == "internal/strconv.uint64pow10")
  have e : (laidC (H := Unit)).filter (fun x => x.1 == "internal/strconv.uint64pow10") = [("internal/strconv.uint64pow10", Lib.tabData .u64 Lib.pow10Tab)] := by kernel_rfl
  rw [e, MakeChecks.laidMetH_plain _ _ _ (by kernel_rfl)] at h1
  exact Lib.tabBelow_of_tabIs (Lib.tabIs_of_head gPow tPow Tryz.underlying151 Tryz.underlying125 (by kernel_rfl) (by kernel_rfl) h1)

theorem spot_none {w : World} {x : Addr} {v : Value} (h : w.cell? x = some v) : x.spot = none := by
  unfold World.cell? at h
  split at h
  · split at h
    · simp at h
    · rename_i hs; simpa using hs
  · simp at h
theorem okI_of {n : Int} (h : (Lit.int .i64 n).wf = true) : okI n := by
  simp [Lit.wf, IntKind.min, IntKind.max, IntKind.signed, IntKind.bits] at h
  exact ⟨by omega, by omega⟩
theorem str_len {s : ByteArray} (h : s.size ≤ maxLen) : s.data.toList.length ≤ 9223372036854775807 := by
  rw [Array.length_toList]
  exact h
theorem str_sv (s : ByteArray) : Value.string s = sv s.data.toList := rfl

section
variable {H : Type} {enc : TypeId × Value → H} {w : World} {sp : Nat → Bool} {held : Bool}
theorem cInt : Tryz.prog.cellsOf 3 = 1 := by kernel_rfl
theorem cStr : Tryz.prog.cellsOf 9 = 1 := by kernel_rfl
theorem cRun : Tryz.prog.cellsOf 68 = 2 := by kernel_rfl
theorem cRuns : Tryz.prog.cellsOf 41 = 1 := by kernel_rfl
theorem cLab : Tryz.prog.cellsOf 43 = 5 := by kernel_rfl

set_option maxRecDepth 100000 in
theorem open_run {n : Nat} {cs : List Value} {x : DataW H × List MemPlace} (h : DataW.trod enc Tryz.prog w 0 sp held n 68 cs = some x) :
    ∃ r : Rn, cs = [.int .i64 r.1, .int .i64 r.2] ∧ okRn r := by
  obtain ⟨xs, m, _, _, hl, hlen, hf⟩ := DataW.trod_struct Tryz.underlying68 h
  rw [cRun] at hl
  match cs, hl, xs, hlen with
  | [c0, c1], _, [y0, y1], _ =>
    have f0 := hf 0 _ rfl
    have f1 := hf 1 _ rfl
    simp [cInt] at f0 f1
    obtain ⟨k0, e0, _, w0⟩ := DataW.trod_int Tryz.underlying3 f0
    obtain ⟨k1, e1, _, w1⟩ := DataW.trod_int Tryz.underlying3 f1
    simp at e0 e1
    subst e0 e1
    exact ⟨(k0, k1), rfl, okI_of w0, okI_of w1⟩
theorem open_runs {n : Nat} {v : Value} {x : DataW H × List MemPlace} (h : DataW.trod enc Tryz.prog w 0 sp held n 41 [v] = some x) :
    ∃ a cap l, v = .slice a l.length cap ∧ Runs w w.heap.size a l ∧ l.length ≤ maxLen := by
  rcases open_slice (e := 68) Tryz.underlying41 h with ⟨hc, _⟩ | ⟨a, len, cap, m, n', D, Pl, hc, _, hl, hcap, hm, _, hV⟩
  · obtain rfl : v = .slice none 0 0 := by simpa using hc
    exact ⟨none, 0, [], rfl, runs_nil _ _ _, Nat.zero_le _⟩
  · obtain rfl : v = .slice (some a) len cap := by simpa using hc
    have hlm : len ≤ m := by subst hm; split <;> omega
    obtain ⟨Z, hZ⟩ := choose_lt (α := Rn) (p := fun i r => w.cells? 0 (a.add (i * 2)) 2 = some [.int .i64 r.1, .int .i64 r.2] ∧ okRn r) (n := len) (fun i hi => by
      obtain ⟨cs, h1, h2⟩ := hV i (by omega)
      obtain ⟨r, rfl, hr⟩ := open_run h2
      rw [cRun] at h1
      exact ⟨r, h1, hr⟩)
    refine ⟨some a, cap, (List.range len).map Z, by simp, ⟨fun hne => ?_, fun r hr => ?_⟩, by simp; omega⟩
    · have h0 : 0 < len := by
        rcases Nat.eq_zero_or_pos len with h | h
        · subst h; simp at hne
        · exact h
      have hc0 := (World.cells?_some (hZ 0 h0).1).2.2 0 (by omega)
      have e0 : (a.add (0 * 2)).add 0 = a := by simp [Addr.add]
      rw [e0] at hc0
      have hs := spot_none (v := .int .i64 (Z 0).1) hc0
      obtain ⟨b, off, spot⟩ := a
      simp only at hs
      subst hs
      refine ⟨b, off, rfl, block_lt_of_cell (v := .int .i64 (Z 0).1) hc0, fun i hi => ?_⟩
      rw [List.length_map, List.length_range] at hi
      have q := (World.cells?_some (hZ i hi).1).2.2
      have q0 := q 0 (by omega)
      have q1 := q 1 (by omega)
      rw [add_plain, add_plain] at q0 q1
      refine ⟨?_, ?_⟩
      · rw [Nat.add_zero] at q0; rw [q0]; simp
      · rw [q1]; simp
    · obtain ⟨i, hi, rfl⟩ := List.mem_map.1 hr
      exact (hZ i (List.mem_range.1 hi)).2

structure LabOk (w : World) (x : Lab) (ea : Option Addr) : Prop where
  ok : okLab x
  ext : Runs w w.heap.size ea x.ext
  len : x.ext.length ≤ 9223372036854775807
instance : Inhabited Lab := ⟨⟨0, 0, [], [], []⟩⟩
set_option maxRecDepth 100000 in
theorem open_lab {n : Nat} {cs : List Value} {x : DataW H × List MemPlace} (h : DataW.trod enc Tryz.prog w 0 sp held n 43 cs = some x) :
    ∃ r : Lab × Option Addr × Nat, cs = [.int .i64 r.1.id, .int .i64 r.1.unit, sv r.1.name, sv r.1.note, .slice r.2.1 r.1.ext.length r.2.2] ∧ LabOk w r.1 r.2.1 := by
  obtain ⟨xs, m, _, _, hl, hlen, hf⟩ := DataW.trod_struct Tryz.underlying43 h
  rw [cLab] at hl
  match cs, hl, xs, hlen with
  | [c0, c1, c2, c3, c4], _, [y0, y1, y2, y3, y4], _ =>
    have f0 := hf 0 _ rfl
    have f1 := hf 1 _ rfl
    have f2 := hf 2 _ rfl
    have f3 := hf 3 _ rfl
    have f4 := hf 4 _ rfl
    simp [cInt, cStr, cRuns] at f0 f1 f2 f3 f4
    obtain ⟨k0, e0, _, w0⟩ := DataW.trod_int Tryz.underlying3 f0
    obtain ⟨k1, e1, _, w1⟩ := DataW.trod_int Tryz.underlying3 f1
    obtain ⟨s2, e2, _, w2⟩ := DataW.trod_string Tryz.underlying9 f2
    obtain ⟨s3, e3, _, w3⟩ := DataW.trod_string Tryz.underlying9 f3
    obtain ⟨ea, ec, l, e4, hR, hm⟩ := open_runs f4
    simp at e0 e1 e2 e3
    subst e0 e1 e2 e3 e4
    refine ⟨⟨⟨k0, k1, s2.data.toList, s3.data.toList, l⟩, ea, ec⟩, rfl, ⟨okI_of w0, okI_of w1, ?_, ?_⟩, hR, ?_⟩
    · exact str_len w2
    · exact str_len w3
    · simpa [maxLen] using hm
theorem open_labs {n : Nat} {v : Value} {x : DataW H × List MemPlace} (h : DataW.trod enc Tryz.prog w 0 sp held n 22 [v] = some x) :
    ∃ a cap l, v = .slice a l.length cap ∧ Labs w w.heap.size a l ∧ l.length ≤ 9223372036854775807 ∧ ∀ x ∈ l, x.ext.length ≤ 9223372036854775807 := by
  rcases open_slice (e := 43) Tryz.underlying22 h with ⟨hc, _⟩ | ⟨a, len, cap, m, n', D, Pl, hc, _, hl, hcap, hm, _, hV⟩
  · obtain rfl : v = .slice none 0 0 := by simpa using hc
    exact ⟨none, 0, [], rfl, ⟨fun h => absurd rfl h, fun x hx => by cases hx⟩, by simp, fun x hx => by cases hx⟩
  · obtain rfl : v = .slice (some a) len cap := by simpa using hc
    have hlm : len ≤ m := by subst hm; split <;> omega
    obtain ⟨Z, hZ⟩ := choose_lt (α := Lab × Option Addr × Nat) (p := fun i r => w.cells? 0 (a.add (i * 5)) 5 = some [.int .i64 r.1.id, .int .i64 r.1.unit, sv r.1.name, sv r.1.note, .slice r.2.1 r.1.ext.length r.2.2] ∧ LabOk w r.1 r.2.1) (n := len) (fun i hi => by
      obtain ⟨cs, h1, h2⟩ := hV i (by omega)
      obtain ⟨r, rfl, hr⟩ := open_lab h2
      rw [cLab] at h1
      exact ⟨r, h1, hr⟩)
    refine ⟨some a, cap, (List.range len).map fun i => (Z i).1, by simp, ⟨fun hne => ?_, fun r hr => ?_⟩, by simp [maxLen] at hcap ⊢; omega, fun r hr => ?_⟩
    · have h0 : 0 < len := by
        rcases Nat.eq_zero_or_pos len with h | h
        · subst h; simp at hne
        · exact h
      have hc0 := (World.cells?_some (hZ 0 h0).1).2.2 0 (by omega)
      have e0 : (a.add (0 * 5)).add 0 = a := by simp [Addr.add]
      rw [e0] at hc0
      have hs := spot_none (v := .int .i64 (Z 0).1.id) hc0
      obtain ⟨b, off, spot⟩ := a
      simp only at hs
      subst hs
      refine ⟨b, off, rfl, block_lt_of_cell (v := .int .i64 (Z 0).1.id) hc0, fun i hi => ?_⟩
      rw [List.length_map, List.length_range] at hi
      have q := (World.cells?_some (hZ i hi).1).2.2
      have q0 := q 0 (by omega)
      have q1 := q 1 (by omega)
      have q2 := q 2 (by omega)
      have q3 := q 3 (by omega)
      have q4 := q 4 (by omega)
      rw [add_plain, add_plain] at q0 q1 q2 q3 q4
      rw [Nat.add_zero] at q0
      rw [List.getElem_map, List.getElem_range]
      exact ⟨q0, q1, q2, q3, _, _, q4, (hZ i hi).2.ext⟩
    · obtain ⟨i, hi, rfl⟩ := List.mem_map.1 hr
      exact (hZ i (List.mem_range.1 hi)).2.ok
    · obtain ⟨i, hi, rfl⟩ := List.mem_map.1 hr
      exact (hZ i (List.mem_range.1 hi)).2.len
set_option maxRecDepth 100000 in
theorem open_table {r : Reach} {b0 : Nat} {v : Value} {d : DataW H} {ps : List MemPlace} (hv : Value.okWide Tryz.prog w r b0 24 v) (h : DataW.Trod enc Tryz.prog w 0 sp held 24 v d ps) :
    ∃ (nm : By) (tr : Int) (a : Option Addr) (cap : Nat) (l : List Lab), v = .agg (tabC nm tr a l.length cap) ∧ Labs w w.heap.size a l ∧ l.length ≤ 9223372036854775807 ∧ nm.length ≤ 9223372036854775807 ∧ ∀ x ∈ l, x.ext.length ≤ 9223372036854775807 := by
  obtain ⟨v0, v1, v2, y0, y1, y2, n, rfl, _, _, h0, h1, h2⟩ := Go.Joins.open_agg3 Tryz.underlying24 (by kernel_rfl) (by kernel_rfl) hv h
  obtain ⟨s0, e0, _, w0⟩ := DataW.trod_string Tryz.underlying9 h0
  obtain ⟨k1, e1, _⟩ := DataW.trod_int Tryz.underlying3 h1
  obtain ⟨a, cap, l, e2, hL, hm, he⟩ := open_labs h2
  simp at e0 e1
  subst e0 e1 e2
  exact ⟨s0.data.toList, k1, a, cap, l, rfl, hL, hm, str_len w0, he⟩
end

end Go.Proofs.YtcidbmldbikknaaGreatDoor

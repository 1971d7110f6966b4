/-
  What the arguments and the laid table read as. No condition.
-/
import Derived.Test.YthkpcalopmddpaaGreatDoorGB
import Derived.Test.YthkpcalopmddpaaGreatDoorGC
import Derived.ProofKit
import Derived.OpenShut
import Derived.ShutString
import Derived.ChangeOld
import Derived.Below
import Derived.LaidMore
import Derived.Stop.Joined
import Derived.SliceStrings
import Derived.Lib.SmallJoins
import Derived.Deep.Slices
namespace Go.Proofs.YthkpcalopmddpaaGreatDoor
open Go.ChangeShapes Go.WideShapes Go.ChangeAt Go.RowKit

theorem own_knob : ownKnob Tryz.prog.godebug = none := by kernel_rfl
theorem laid_out : laidOutB Tryz.prog = true := by kernel_rfl
abbrev laidC {H : Type} : List (String × DataW H) := [("dasd/spanned.codes", Rows.laid_dasd_spanned_codes)]
theorem gCodes : Tryz.prog.globalNamed "dasd/spanned.codes" = some 0 := by kernel_rfl
theorem tCodes : (Tryz.prog.globals[0]?).map (·.type) = some 167 := by kernel_rfl
theorem door_met (os : Os) (args : Array Value) : laidMetH Tryz.prog laidC ((World.doorLaid Tryz.prog 400 os).forCall (fun _ _ => 0) ⟨#[], args, []⟩).memory :=
  laidMetH_of_parts3 (fuel := 8) (laidMet_of_run' 8 (by kernel_rfl) (by kernel_rfl)) (by kernel_rfl) (by kernel_rfl)

section
variable {H : Type} {enc : TypeId × Value → H} {w : World} {sp : Nat → Bool} {held : Bool}
set_option maxRecDepth 100000 in
theorem open_two {n : Nat} {cs : List Value} {x : DataW H × List MemPlace} (h : DataW.trod enc Tryz.prog w 0 sp held n 166 cs = some x) : ∃ a b : Bool, cs = [.bool a, .bool b] ∧ x.1 = .agg [.lit (.bool a), .lit (.bool b)] := by
  have c4 : Tryz.prog.cellsOf 4 = 1 := by kernel_rfl
  have c2 : Tryz.prog.cellsOf 166 = 2 := by kernel_rfl
  obtain ⟨xs, m, _, hx, hl, hn, hf⟩ := DataW.trod_array Tryz.underlying166 h
  rw [c2] at hl
  match cs, hl, xs, hn with
  | [v0, v1], _, [y0, y1], _ =>
    have f0 := hf 0 (by decide)
    have f1 := hf 1 (by decide)
    simp [c4] at f0 f1
    obtain ⟨a, e0, g0⟩ := DataW.trod_bool Tryz.underlying4 f0
    obtain ⟨b, e1, g1⟩ := DataW.trod_bool Tryz.underlying4 f1
    simp at e0 e1
    subst e0 e1 g0 g1
    exact ⟨a, b, rfl, by rw [hx]; rfl⟩
end

set_option maxRecDepth 100000 in
theorem codes_of_laid {W : World} (h : laidMetH Tryz.prog laidC W) : Codes W := by
  rw [MakeChecks.laidMetH_plain _ _ _ (by kernel_rfl)] at h
  obtain ⟨ps, ⟨g0, t0, cs0, f0, p0, q0, hg0, ht0, hv0, hd0, _, _⟩, _, _⟩ := h
  obtain rfl := Option.some.inj (gCodes.symm.trans hg0)
  obtain rfl := Option.some.inj (tCodes.symm.trans ht0)
  have c2 : Tryz.prog.cellsOf 166 = 2 := by kernel_rfl
  have c8 : Tryz.prog.cellsOf 167 = 8 := by kernel_rfl
  obtain ⟨xs, m, _, hx, hl, hn, hf⟩ := DataW.trod_array Tryz.underlying167 hd0
  rw [c8] at hl
  obtain ⟨cs⟩ := cs0
  simp only at hl hf
  match cs, hl, xs, hn with
  | [v0, v1, v2, v3, v4, v5, v6, v7], _, [y0, y1, y2, y3], _ =>
    have k0 := hf 0 (by decide)
    have k1 := hf 1 (by decide)
    have k2 := hf 2 (by decide)
    have k3 := hf 3 (by decide)
    simp [c2] at k0 k1 k2 k3
    obtain ⟨a0, b0, e0, z0⟩ := open_two k0
    obtain ⟨a1, b1, e1, z1⟩ := open_two k1
    obtain ⟨a2, b2, e2, z2⟩ := open_two k2
    obtain ⟨a3, b3, e3, z3⟩ := open_two k3
    simp only [List.cons.injEq, and_true] at e0 e1 e2 e3
    obtain ⟨rfl, rfl⟩ := e0
    obtain ⟨rfl, rfl⟩ := e1
    obtain ⟨rfl, rfl⟩ := e2
    obtain ⟨rfl, rfl⟩ := e3
    have hx1 := congrArg Prod.fst hx
    simp only [List.map_cons, List.map_nil, z0, z1, z2, z3] at hx1
    simp [Rows.laid_dasd_spanned_codes] at hx1
    obtain ⟨⟨rfl, rfl⟩, ⟨rfl, rfl⟩, ⟨rfl, rfl⟩, ⟨rfl, rfl⟩⟩ := hx1
    have hc := fun i => World.var?_cell hg0 hv0 i
    exact ⟨block_lt_of_cell (hc 0), hc 0, hc 1, hc 2, hc 3, hc 4, hc 5, hc 6, hc 7⟩

section
variable {H : Type} {enc : TypeId × Value → H} {w : World} {sp : Nat → Bool} {held : Bool}
theorem open_texts {v : Value} {d : DataW H} {ps : List MemPlace} (h : DataW.Trod enc Tryz.prog w 0 sp held 24 v d ps) (hv : ∃ a len cap, v = .slice a len cap) :
    ∃ a cap l, v = .slice a l.length cap ∧ Strs w w.heap.size a l ∧ l.length ≤ cap ∧ cap ≤ maxLen := by
  obtain ⟨n, hn⟩ := h
  obtain ⟨a0, len0, cap0, rfl⟩ := hv
  have c9 : Tryz.prog.cellsOf 9 = 1 := by kernel_rfl
  rcases open_strings Tryz.underlying24 Tryz.underlying9 c9 hn with ⟨hc, _⟩ | ⟨a, len, cap, ss, hc, _, hl, hcap, hlen, _, hV, _⟩
  · simp [Value.cells] at hc
    obtain ⟨rfl, rfl, rfl⟩ := hc
    exact ⟨none, 0, [], rfl, strs_nil _ _ _, Nat.le_refl _, Nat.zero_le _⟩
  · simp [Value.cells] at hc
    obtain ⟨rfl, rfl, rfl⟩ := hc
    have hm : len0 ≤ ss.length := by rw [hlen]; split <;> omega
    refine ⟨some a, cap0, (ss.take len0).map fun s => s.data.toList, by simp; omega, ⟨fun hne => ?_⟩, by simp; omega, hcap⟩
    have h0 : 0 < len0 := by
      rcases Nat.eq_zero_or_pos len0 with h | h
      · subst h; simp at hne
      · exact h
    have hc0 := hV 0 (by omega)
    have e0 : a.add 0 = a := by simp [Addr.add]
    rw [e0] at hc0
    have hs : a.spot = none := by
      have h := hc0
      unfold World.cell? at h
      split at h
      · split at h
        · simp at h
        · rename_i hs; simpa using hs
      · simp at h
    obtain ⟨b, off, spot⟩ := a
    simp only at hs
    subst hs
    refine ⟨b, off, rfl, block_lt_of_cell hc0, fun i hi => ?_⟩
    rw [List.length_map, List.length_take] at hi
    have h1 := hV i (by omega)
    rw [show (⟨b, off, none⟩ : Addr).add i = ⟨b, off + i, none⟩ by unfold Addr.add; split <;> simp_all] at h1
    rw [h1]
    have h2 : i < ss.length := by omega
    simp [List.getD, h2]
theorem open_secs {v : Value} {d : DataW H} {ps : List MemPlace} (h : DataW.Trod enc Tryz.prog w 0 sp held 25 v d ps) (hv : ∃ a len cap, v = .slice a len cap) :
    ∃ a cap l, v = .slice a l.length cap ∧ Strs w w.heap.size a l ∧ l.length ≤ cap ∧ cap ≤ maxLen := by
  obtain ⟨n, hn⟩ := h
  obtain ⟨a0, len0, cap0, rfl⟩ := hv
  have c9 : Tryz.prog.cellsOf 9 = 1 := by kernel_rfl
  rcases open_strings Tryz.underlying25 Tryz.underlying9 c9 hn with ⟨hc, _⟩ | ⟨a, len, cap, ss, hc, _, hl, hcap, hlen, _, hV, _⟩
  · simp [Value.cells] at hc
    obtain ⟨rfl, rfl, rfl⟩ := hc
    exact ⟨none, 0, [], rfl, strs_nil _ _ _, Nat.le_refl _, Nat.zero_le _⟩
  · simp [Value.cells] at hc
    obtain ⟨rfl, rfl, rfl⟩ := hc
    have hm : len0 ≤ ss.length := by rw [hlen]; split <;> omega
    refine ⟨some a, cap0, (ss.take len0).map fun s => s.data.toList, by simp; omega, ⟨fun hne => ?_⟩, by simp; omega, hcap⟩
    have h0 : 0 < len0 := by
      rcases Nat.eq_zero_or_pos len0 with h | h
      · subst h; simp at hne
      · exact h
    have hc0 := hV 0 (by omega)
    have e0 : a.add 0 = a := by simp [Addr.add]
    rw [e0] at hc0
    have hs : a.spot = none := by
      have h := hc0
      unfold World.cell? at h
      split at h
      · split at h
        · simp at h
        · rename_i hs; simpa using hs
      · simp at h
    obtain ⟨b, off, spot⟩ := a
    simp only at hs
    subst hs
    refine ⟨b, off, rfl, block_lt_of_cell hc0, fun i hi => ?_⟩
    rw [List.length_map, List.length_take] at hi
    have h1 := hV i (by omega)
    rw [show (⟨b, off, none⟩ : Addr).add i = ⟨b, off + i, none⟩ by unfold Addr.add; split <;> simp_all] at h1
    rw [h1]
    have h2 : i < ss.length := by omega
    simp [List.getD, h2]
set_option maxRecDepth 100000 in
theorem open_shape {r : Reach} {b0 : Nat} {v : Value} {d : DataW H} {ps : List MemPlace} (hv : Value.okWide Tryz.prog w r b0 23 v) (h : DataW.Trod enc Tryz.prog w 0 sp held 23 v d ps) :
    ∃ a b c e : Int, v = .agg #[.int .i64 a, .int .i64 b, .int .i64 c, .int .i64 e] := by
  obtain ⟨v0, v1, v2, v3, y0, y1, y2, y3, n, rfl, _, _, h0, h1, h2, h3⟩ := Go.Joins.open_agg4 Tryz.underlying23 (by kernel_rfl) (by kernel_rfl) hv h
  obtain ⟨a, e0, _⟩ := DataW.trod_int Tryz.underlying3 h0
  obtain ⟨b, e1, _⟩ := DataW.trod_int Tryz.underlying3 h1
  obtain ⟨c, e2, _⟩ := DataW.trod_int Tryz.underlying3 h2
  obtain ⟨e, e3, _⟩ := DataW.trod_int Tryz.underlying3 h3
  simp at e0 e1 e2 e3
  subst e0 e1 e2 e3
  exact ⟨a, b, c, e, rfl⟩
end

end Go.Proofs.YthkpcalopmddpaaGreatDoor

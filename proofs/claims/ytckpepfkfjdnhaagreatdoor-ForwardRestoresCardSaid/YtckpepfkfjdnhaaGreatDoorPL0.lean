/-
  What the arguments and the laid table read as. No condition.
  What the laid table reads as. No condition.
-/
import Derived.Test.YtckpepfkfjdnhaaGreatDoorPJ37
import Derived.Test.YtckpepfkfjdnhaaGreatDoorRows
import Derived.ProofKit
import Derived.OpenShut
import Derived.ShutString
import Derived.ChangeOld
import Derived.Below
import Derived.LaidMore
import Derived.LaidSub
import Derived.Stop.Joined
import Derived.Lib.SmallJoins
import Derived.Deep.Slices
namespace Go.Proofs.YtckpepfkfjdnhaaGreatDoor

section
open Go.ChangeShapes Go.WideShapes Go.ChangeAt Go.RowKit Go.Deep
variable {z : Rest}

theorem own_knob : ownKnob Tryz.prog.godebug = none := by kernel_rfl
section
variable {H : Type} {enc : TypeId × Value → H} {w : World} {sp : Nat → Bool} {held : Bool}
end
end

section
open Go.ChangeShapes Go.WideShapes Go.ChangeAt Go.RowKit

abbrev laidC {H : Type} : List (String × DataW H) := [("math/bits.deBruijn32tab", Rows.laid_math_bits_deBruijn32tab), ("math/bits.deBruijn64tab", Rows.laid_math_bits_deBruijn64tab), ("internal/strconv.uint64pow10", Rows.laid_internal_strconv_uint64pow10), ("dasd/spanned.codes", Rows.laid_dasd_spanned_codes)]
theorem gCodes : Tryz.prog.globalNamed "dasd/spanned.codes" = some 1 := by kernel_rfl
theorem tCodes : (Tryz.prog.globals[1]?).map (·.type) = some 272 := by kernel_rfl
theorem door_met (os : Os) (args : Array Value) : laidMetH Tryz.prog laidC ((World.doorLaid Tryz.prog 400 os).forCall (fun _ _ => 0) ⟨#[], args, []⟩).memory :=
 laidMetH_of_parts3 (fuel := 8) (laidMet_of_run' 8 (by kernel_rfl) (by kernel_rfl)) (by kernel_rfl) (by kernel_rfl)

section
variable {H : Type} {enc : TypeId × Value → H} {w : World} {sp : Nat → Bool} {held : Bool}
set_option maxRecDepth 100000 in
theorem open_two {n : Nat} {cs : List Value} {x : DataW H × List MemPlace} (h : DataW.trod enc Tryz.prog w 0 sp held n 271 cs = some x) : ∃ a b : Bool, cs = [.bool a, .bool b] ∧ x.1 = .agg [.lit (.bool a), .lit (.bool b)] := by
 have c4 : Tryz.prog.cellsOf 4 = 1 := by kernel_rfl
 have c2 : Tryz.prog.cellsOf 271 = 2 := by kernel_rfl
 obtain ⟨xs, m, _, hx, hl, hn, hf⟩ := DataW.trod_array Tryz.underlying271 h
 rw [c2] at hl
 match cs, hl, xs, hn with
 | [v0, v1], _, [y0, y1], _ =>
   have f0 := hf 0 (by decide)
   have f1 := hf 1 (by decide)
   simp [c4] at f0 f1
   obtain ⟨a, e0, g0⟩ := DataW.trod_bool Tryz.underlying4 f0
   obtain ⟨b, e1, g1⟩ := DataW.trod_bool Tryz.underlying4 f1
   simp at e0 e1
   subst e0 e1 g0 g1
   exact ⟨a, b, rfl, by rw [hx]; rfl⟩
end

set_option maxRecDepth 100000 in
theorem codes_of_laid {W : World} (h0 : laidMetH Tryz.prog laidC W) : Codes W := by
 have h := h0.filter (fun x => x.1 == "dasd/spanned.codes")
 have e : (laidC (H := Unit)).filter (fun x => x.1 == "dasd/spanned.codes") = [("dasd/spanned.codes", Rows.laid_dasd_spanned_codes)] := by kernel_rfl
 rw [e, MakeChecks.laidMetH_plain _ _ _ (by kernel_rfl)] at h
 obtain ⟨ps, ⟨g0, t0, cs0, f0, p0, q0, hg0, ht0, hv0, hd0, _, _⟩, _, _⟩ := h
 obtain rfl := Option.some.inj (gCodes.symm.trans hg0)
 obtain rfl := Option.some.inj (tCodes.symm.trans ht0)
 have c2 : Tryz.prog.cellsOf 271 = 2 := by kernel_rfl
 have c8 : Tryz.prog.cellsOf 272 = 8 := by kernel_rfl
 obtain ⟨xs, m, _, hx, hl, hn, hf⟩ := DataW.trod_array Tryz.underlying272 hd0
 rw [c8] at hl
 obtain ⟨cs⟩ := cs0
 simp only at hl hf
 match cs, hl, xs, hn with
 | [v0, v1, v2, v3, v4, v5, v6, v7], _, [y0, y1, y2, y3], _ =>
   have k0 := hf 0 (by decide)
   have k1 := hf 1 (by decide)
   have k2 := hf 2 (by decide)
   have k3 := hf 3 (by decide)
   simp [c2] at k0 k1 k2 k3
   obtain ⟨a0, b0, e0, z0⟩ := open_two k0
   obtain ⟨a1, b1, e1, z1⟩ := open_two k1
   obtain ⟨a2, b2, e2, z2⟩ := open_two k2
   obtain ⟨a3, b3, e3, z3⟩ := open_two k3
   simp only [List.cons.injEq, and_true] at e0 e1 e2 e3
   obtain ⟨rfl, rfl⟩ := e0
   obtain ⟨rfl, rfl⟩ := e1
   obtain ⟨rfl, rfl⟩ := e2
   obtain ⟨rfl, rfl⟩ := e3
   have hx1 := congrArg Prod.fst hx
   simp only [List.map_cons, List.map_nil, z0, z1, z2, z3] at hx1
   simp [Rows.laid_dasd_spanned_codes] at hx1
   obtain ⟨⟨rfl, rfl⟩, ⟨rfl, rfl⟩, ⟨rfl, rfl⟩, ⟨rfl, rfl⟩⟩ := hx1
   have hc := fun i => World.var?_cell hg0 hv0 i
   exact ⟨block_lt_of_cell (hc 0), hc 0, hc 1, hc 2, hc 3, hc 4, hc 5, hc 6, hc 7⟩
end

end Go.Proofs.YtckpepfkfjdnhaaGreatDoor

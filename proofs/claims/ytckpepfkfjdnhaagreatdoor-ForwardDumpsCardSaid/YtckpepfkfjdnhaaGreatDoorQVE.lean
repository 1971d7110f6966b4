/-
  What the arguments and the laid table read as. No condition.
  What the laid table reads as. No condition.
  Walk: the law ForwardRolls. Conditions: the arguments in memory, the laid table.
  What an argument that is a list of log records reads as. No condition.
  The room of a list of records that the caller hands over. No condition.
-/
import Derived.Test.YtckpepfkfjdnhaaGreatDoorQW
import Derived.Test.YtckpepfkfjdnhaaGreatDoorRows
import Derived.Test.YtckpepfkfjdnhaaGreatDoorQZ
import Derived.Test.YtckpepfkfjdnhaaGreatDoorQY
import Derived.Test.YtckpepfkfjdnhaaGreatDoorQVB
import Derived.ProofKit
import Derived.OpenShut
import Derived.ShutString
import Derived.ChangeOld
import Derived.Below
import Derived.LaidMore
import Derived.LaidSub
import Derived.Stop.Joined
import Derived.Lib.SmallJoins
import Derived.Deep.Slices
namespace Go.Proofs.YtckpepfkfjdnhaaGreatDoor

section
open Go.ChangeShapes Go.WideShapes Go.ChangeAt Go.RowKit Go.Deep
variable {z : Rest}

theorem own_knob : ownKnob Tryz.prog.godebug = none := by kernel_rfl
theorem laid_out : laidOutB Tryz.prog = true := by kernel_rfl

theorem spot_none {w : World} {x : Addr} {v : Value} (h : w.cell? x = some v) : x.spot = none := by
 unfold World.cell? at h
 split at h
 · split at h
   · simp at h
   · rename_i hs; simpa using hs
 · simp at h
theorem str_len {s : ByteArray} (h : s.size ≤ maxLen) : s.data.toList.length ≤ 9223372036854775807 := by
 rw [Array.length_toList]
 exact h

section
variable {H : Type} {enc : TypeId × Value → H} {w : World} {sp : Nat → Bool} {held : Bool}
theorem cInt : Tryz.prog.cellsOf 3 = 1 := by kernel_rfl
theorem cStr : Tryz.prog.cellsOf 9 = 1 := by kernel_rfl
theorem cPair : Tryz.prog.cellsOf 46 = 2 := by kernel_rfl
theorem cPairs : Tryz.prog.cellsOf 24 = 1 := by kernel_rfl
theorem cSet : Tryz.prog.cellsOf 23 = 21 := by kernel_rfl
theorem cCon : Tryz.prog.cellsOf 26 = 23 := by kernel_rfl
theorem cChg : Tryz.prog.cellsOf 28 = 5 := by kernel_rfl
set_option maxRecDepth 100000 in
theorem open_pair {n : Nat} {cs : List Value} {x : DataW H × List MemPlace} (h : DataW.trod enc Tryz.prog w 0 sp held n 46 cs = some x) :
   ∃ r : Pr, cs = [.string ⟨r.1.toArray⟩, .string ⟨r.2.toArray⟩] := by
 obtain ⟨xs, m, _, _, hl, hlen, hf⟩ := DataW.trod_struct Tryz.underlying46 h
 rw [cPair] at hl
 match cs, hl, xs, hlen with
 | [c0, c1], _, [y0, y1], _ =>
   have f0 := hf 0 _ rfl
   have f1 := hf 1 _ rfl
   simp [cStr] at f0 f1
   obtain ⟨k0, e0, _, w0⟩ := DataW.trod_string Tryz.underlying9 f0
   obtain ⟨k1, e1, _, w1⟩ := DataW.trod_string Tryz.underlying9 f1
   simp at e0 e1
   subst e0 e1
   exact ⟨(k0.data.toList, k1.data.toList), rfl⟩
theorem open_pairs {n : Nat} {v : Value} {x : DataW H × List MemPlace} (h : DataW.trod enc Tryz.prog w 0 sp held n 24 [v] = some x) :
   ∃ a cap l, v = .slice a l.length cap ∧ Prs w w.heap.size a l ∧ l.length ≤ cap ∧ cap ≤ maxLen := by
 rcases open_slice (e := 46) Tryz.underlying24 h with ⟨hc, _⟩ | ⟨a, len, cap, m, n', D, Pl, hc, _, hl, hcap, hm, _, hV⟩
 · obtain rfl : v = .slice none 0 0 := by simpa using hc
   exact ⟨none, 0, [], rfl, prs_nil _ _ _, Nat.zero_le _, Nat.zero_le _⟩
 · obtain rfl : v = .slice (some a) len cap := by simpa using hc
   have hlm : len ≤ m := by subst hm; split <;> omega
   obtain ⟨Z, hZ⟩ := choose_lt (α := Pr) (p := fun i r => w.cells? 0 (a.add (i * 2)) 2 = some [.string ⟨r.1.toArray⟩, .string ⟨r.2.toArray⟩]) (n := len) (fun i hi => by
     obtain ⟨cs, h1, h2⟩ := hV i (by omega)
     obtain ⟨r, rfl⟩ := open_pair h2
     rw [cPair] at h1
     exact ⟨r, h1⟩)
   refine ⟨some a, cap, (List.range len).map Z, by simp, ⟨fun hne => ?_⟩, by simpa using hl, hcap⟩
   have h0 : 0 < len := by
     rcases Nat.eq_zero_or_pos len with h | h
     · subst h; simp at hne
     · exact h
   have hc0 := (World.cells?_some (hZ 0 h0)).2.2 0 (by omega)
   have e0 : (a.add (0 * 2)).add 0 = a := by simp [Addr.add]
   rw [e0] at hc0
   have hs := spot_none (v := .string ⟨(Z 0).1.toArray⟩) hc0
   obtain ⟨b, off, spot⟩ := a
   simp only at hs
   subst hs
   refine ⟨b, off, rfl, block_lt_of_cell (v := .string ⟨(Z 0).1.toArray⟩) hc0, fun i hi => ?_⟩
   rw [List.length_map, List.length_range] at hi
   have q := (World.cells?_some (hZ i hi)).2.2
   have q0 := q 0 (by omega)
   have q1 := q 1 (by omega)
   rw [add_plain, add_plain] at q0 q1
   rw [Nat.add_zero] at q0
   rw [List.getElem_map, List.getElem_range]
   exact ⟨q0, q1⟩

theorem one_of {cs : List Value} {o n : Nat} {v : Value} (h : (cs.drop o).take n = [v]) : cs[o]? = some v := by
 have : ((cs.drop o).take n)[0]? = some v := by rw [h]; rfl
 cases n with
 | zero => simp at this
 | succ n => simpa [List.getElem?_take] using this
theorem list21 {α : Type} {l : List α} (h : l.length = 21) : ∃ c0 c1 c2 c3 c4 c5 c6 c7 c8 c9 c10 c11 c12 c13 c14 c15 c16 c17 c18 c19 c20, l = [c0, c1, c2, c3, c4, c5, c6, c7, c8, c9, c10, c11, c12, c13, c14, c15, c16, c17, c18, c19, c20] := by
 iterate 21 (rcases l with _ | ⟨_, l⟩; · simp at h)
 obtain rfl : l = [] := by simpa using h
 exact ⟨_, _, _, _, _, _, _, _, _, _, _, _, _, _, _, _, _, _, _, _, _, rfl⟩
set_option maxRecDepth 100000 in
theorem open_ds {n : Nat} {cs : List Value} {x : DataW H × List MemPlace} (h : DataW.trod enc Tryz.prog w 0 sp held n 23 cs = some x) :
   ∃ (z : Rest) (org fmt len blk : Int), cs = (dsv z org fmt len blk).toList ∧ z.vol.length ≤ 9223372036854775807 ∧ z.own.length ≤ 9223372036854775807 := by
 obtain ⟨xs, m, _, _, hl, hlen, hf⟩ := DataW.trod_struct Tryz.underlying23 h
 rw [cSet] at hl
 obtain ⟨c0, c1, c2, c3, c4, c5, c6, c7, c8, c9, c10, c11, c12, c13, c14, c15, c16, c17, c18, c19, c20, rfl⟩ := list21 hl
 have hx : xs.length = 21 := hlen
 have f0 := (hf 0 _ rfl).trans (List.getElem?_eq_getElem (by rw [hx]; decide))
 obtain ⟨k0, e0, _, w0⟩ := DataW.trod_int Tryz.underlying3 f0
 have g0 : some c0 = some (.int .i64 k0) := one_of e0
 obtain rfl := Option.some.inj g0
 have f1 := (hf 1 _ rfl).trans (List.getElem?_eq_getElem (by rw [hx]; decide))
 obtain ⟨k1, e1, _, w1⟩ := DataW.trod_int Tryz.underlying3 f1
 have g1 : some c1 = some (.int .i64 k1) := one_of e1
 obtain rfl := Option.some.inj g1
 have f2 := (hf 2 _ rfl).trans (List.getElem?_eq_getElem (by rw [hx]; decide))
 obtain ⟨k2, e2, _, w2⟩ := DataW.trod_int Tryz.underlying3 f2
 have g2 : some c2 = some (.int .i64 k2) := one_of e2
 obtain rfl := Option.some.inj g2
 have f3 := (hf 3 _ rfl).trans (List.getElem?_eq_getElem (by rw [hx]; decide))
 obtain ⟨k3, e3, _, w3⟩ := DataW.trod_int Tryz.underlying3 f3
 have g3 : some c3 = some (.int .i64 k3) := one_of e3
 obtain rfl := Option.some.inj g3
 have f4 := (hf 4 _ rfl).trans (List.getElem?_eq_getElem (by rw [hx]; decide))
 obtain ⟨k4, e4, _, w4⟩ := DataW.trod_int Tryz.underlying3 f4
 have g4 : some c4 = some (.int .i64 k4) := one_of e4
 obtain rfl := Option.some.inj g4
 have f5 := (hf 5 _ rfl).trans (List.getElem?_eq_getElem (by rw [hx]; decide))
 obtain ⟨k5, e5, _, w5⟩ := DataW.trod_int Tryz.underlying3 f5
 have g5 : some c5 = some (.int .i64 k5) := one_of e5
 obtain rfl := Option.some.inj g5
 have f6 := (hf 6 _ rfl).trans (List.getElem?_eq_getElem (by rw [hx]; decide))
 obtain ⟨k6, e6, _, w6⟩ := DataW.trod_int Tryz.underlying3 f6
 have g6 : some c6 = some (.int .i64 k6) := one_of e6
 obtain rfl := Option.some.inj g6
 have f7 := (hf 7 _ rfl).trans (List.getElem?_eq_getElem (by rw [hx]; decide))
 obtain ⟨k7, e7, _, w7⟩ := DataW.trod_int Tryz.underlying3 f7
 have g7 : some c7 = some (.int .i64 k7) := one_of e7
 obtain rfl := Option.some.inj g7
 have f8 := (hf 8 _ rfl).trans (List.getElem?_eq_getElem (by rw [hx]; decide))
 obtain ⟨k8, e8, _, w8⟩ := DataW.trod_int Tryz.underlying3 f8
 have g8 : some c8 = some (.int .i64 k8) := one_of e8
 obtain rfl := Option.some.inj g8
 have f9 := (hf 9 _ rfl).trans (List.getElem?_eq_getElem (by rw [hx]; decide))
 obtain ⟨k9, e9, _, w9⟩ := DataW.trod_int Tryz.underlying3 f9
 have g9 : some c9 = some (.int .i64 k9) := one_of e9
 obtain rfl := Option.some.inj g9
 have f10 := (hf 10 _ rfl).trans (List.getElem?_eq_getElem (by rw [hx]; decide))
 obtain ⟨k10, e10, _, w10⟩ := DataW.trod_int Tryz.underlying3 f10
 have g10 : some c10 = some (.int .i64 k10) := one_of e10
 obtain rfl := Option.some.inj g10
 have f11 := (hf 11 _ rfl).trans (List.getElem?_eq_getElem (by rw [hx]; decide))
 obtain ⟨k11, e11, _, w11⟩ := DataW.trod_int Tryz.underlying3 f11
 have g11 : some c11 = some (.int .i64 k11) := one_of e11
 obtain rfl := Option.some.inj g11
 have f12 := (hf 12 _ rfl).trans (List.getElem?_eq_getElem (by rw [hx]; decide))
 obtain ⟨k12, e12, _, w12⟩ := DataW.trod_int Tryz.underlying3 f12
 have g12 : some c12 = some (.int .i64 k12) := one_of e12
 obtain rfl := Option.some.inj g12
 have f13 := (hf 13 _ rfl).trans (List.getElem?_eq_getElem (by rw [hx]; decide))
 obtain ⟨k13, e13, _, w13⟩ := DataW.trod_int Tryz.underlying3 f13
 have g13 : some c13 = some (.int .i64 k13) := one_of e13
 obtain rfl := Option.some.inj g13
 have f14 := (hf 14 _ rfl).trans (List.getElem?_eq_getElem (by rw [hx]; decide))
 obtain ⟨k14, e14, _⟩ := DataW.trod_bool Tryz.underlying4 f14
 have g14 : some c14 = some (.bool k14) := one_of e14
 obtain rfl := Option.some.inj g14
 have f15 := (hf 15 _ rfl).trans (List.getElem?_eq_getElem (by rw [hx]; decide))
 obtain ⟨k15, e15, _, w15⟩ := DataW.trod_int Tryz.underlying3 f15
 have g15 : some c15 = some (.int .i64 k15) := one_of e15
 obtain rfl := Option.some.inj g15
 have f16 := (hf 16 _ rfl).trans (List.getElem?_eq_getElem (by rw [hx]; decide))
 obtain ⟨k16, e16, _, w16⟩ := DataW.trod_string Tryz.underlying9 f16
 have g16 : some c16 = some (.string k16) := one_of e16
 obtain rfl := Option.some.inj g16
 have f17 := (hf 17 _ rfl).trans (List.getElem?_eq_getElem (by rw [hx]; decide))
 obtain ⟨k17, e17, _, w17⟩ := DataW.trod_string Tryz.underlying9 f17
 have g17 : some c17 = some (.string k17) := one_of e17
 obtain rfl := Option.some.inj g17
 have f18 := (hf 18 _ rfl).trans (List.getElem?_eq_getElem (by rw [hx]; decide))
 obtain ⟨k18, e18, _, w18⟩ := DataW.trod_int Tryz.underlying3 f18
 have g18 : some c18 = some (.int .i64 k18) := one_of e18
 obtain rfl := Option.some.inj g18
 have f19 := (hf 19 _ rfl).trans (List.getElem?_eq_getElem (by rw [hx]; decide))
 obtain ⟨k19, e19, _, w19⟩ := DataW.trod_int Tryz.underlying3 f19
 have g19 : some c19 = some (.int .i64 k19) := one_of e19
 obtain rfl := Option.some.inj g19
 have f20 := (hf 20 _ rfl).trans (List.getElem?_eq_getElem (by rw [hx]; decide))
 obtain ⟨k20, e20, _⟩ := DataW.trod_bool Tryz.underlying4 f20
 have g20 : some c20 = some (.bool k20) := one_of e20
 obtain rfl := Option.some.inj g20
 exact ⟨⟨k0, k5, k6, k7, k8, k9, k10, k11, k12, k13, k14, k15, k16.data.toList, k17.data.toList, k18, k19, k20⟩, k1, k2, k3, k4, rfl, str_len w16, str_len w17⟩
set_option maxRecDepth 100000 in
theorem open_con0 {n : Nat} {cs : List Value} {x : DataW H × List MemPlace} (h : DataW.trod enc Tryz.prog w 0 sp held n 26 cs = some x) :
   ∃ (z : Rest) (org fmt len blk ap : Int) (a : Option Addr) (cap : Nat) (l : List Pr), cs = (conC z org fmt len blk ap a l.length cap).toList ∧ Prs w w.heap.size a l ∧ l.length ≤ cap ∧ cap ≤ maxLen ∧ z.vol.length ≤ 9223372036854775807 ∧ z.own.length ≤ 9223372036854775807 := by
 obtain ⟨xs, m, _, _, hl, hlen, hf⟩ := DataW.trod_struct Tryz.underlying26 h
 rw [cCon] at hl
 have hx : xs.length = 3 := hlen
 have f0 := (hf 0 _ rfl).trans (List.getElem?_eq_getElem (by rw [hx]; decide))
 have f1 := (hf 1 _ rfl).trans (List.getElem?_eq_getElem (by rw [hx]; decide))
 have f2 := (hf 2 _ rfl).trans (List.getElem?_eq_getElem (by rw [hx]; decide))
 obtain ⟨z, org, fmt, len, blk, e0, hvo, how⟩ := open_ds f0
 obtain ⟨ap, e1, _, w1⟩ := DataW.trod_int Tryz.underlying3 f1
 replace e0 : (cs.drop 0).take (Tryz.prog.cellsOf 23) = (dsv z org fmt len blk).toList := e0
 replace e1 : (cs.drop 21).take (Tryz.prog.cellsOf 3) = [.int .i64 ap] := e1
 replace f2 : DataW.trod enc Tryz.prog w 0 sp held m 24 ((cs.drop 22).take (Tryz.prog.cellsOf 24)) = some _ := f2
 rw [cSet, List.drop_zero] at e0
 rw [cInt] at e1
 rw [cPairs] at f2
 have h2 : (cs.drop 22).take 1 = cs.drop 22 := List.take_of_length_le (by rw [List.length_drop, hl]; decide)
 rw [h2] at f2
 have h3 : ∃ v, cs.drop 22 = [v] := by
   have : (cs.drop 22).length = 1 := by rw [List.length_drop, hl]
   match cs.drop 22, this with
   | [v], _ => exact ⟨v, rfl⟩
 obtain ⟨v, h3⟩ := h3
 rw [h3] at f2
 obtain ⟨a, cap, l, rfl, hp, hc, hm⟩ := open_pairs f2
 refine ⟨z, org, fmt, len, blk, ap, a, cap, l, ?_, hp, hc, hm, hvo, how⟩
 have h4 : cs.drop 21 = [.int .i64 ap] ++ cs.drop 22 := by
   rw [← e1, show cs.drop 22 = (cs.drop 21).drop 1 by rw [List.drop_drop], List.take_append_drop]
 rw [← List.take_append_drop 21 cs, e0, h4, h3]
 rfl
set_option maxRecDepth 100000 in
theorem open_con {r : Reach} {b0 : Nat} {v : Value} {d : DataW H} {ps : List MemPlace} (hv : Value.okWide Tryz.prog w r b0 26 v) (h : DataW.Trod enc Tryz.prog w 0 sp held 26 v d ps) :
   ∃ (z : Rest) (org fmt len blk ap : Int) (a : Option Addr) (cap : Nat) (l : List Pr), v = .agg (conC z org fmt len blk ap a l.length cap) ∧ Prs w w.heap.size a l ∧ l.length ≤ cap ∧ cap ≤ maxLen ∧ z.vol.length ≤ 9223372036854775807 ∧ z.own.length ≤ 9223372036854775807 := by
 obtain ⟨cs0, rfl, hsz⟩ := okWide_struct Tryz.underlying26 hv
 obtain ⟨n, hn⟩ := h
 obtain ⟨z, org, fmt, len, blk, ap, a, cap, l, e, h1⟩ := open_con0 hn
 obtain ⟨cs⟩ := cs0
 refine ⟨z, org, fmt, len, blk, ap, a, cap, l, ?_, h1⟩
 simp only [Value.cells] at e
 subst e
 rfl
end
end

section
open Go.ChangeShapes Go.WideShapes Go.ChangeAt Go.RowKit

abbrev laidC {H : Type} : List (String × DataW H) := [("math/bits.deBruijn32tab", Rows.laid_math_bits_deBruijn32tab), ("math/bits.deBruijn64tab", Rows.laid_math_bits_deBruijn64tab), ("internal/strconv.uint64pow10", Rows.laid_internal_strconv_uint64pow10), ("dasd/spanned.codes", Rows.laid_dasd_spanned_codes)]
theorem gCodes : Tryz.prog.globalNamed "dasd/spanned.codes" = some 1 := by kernel_rfl
theorem tCodes : (Tryz.prog.globals[1]?).map (·.type) = some 272 := by kernel_rfl
theorem door_met (os : Os) (args : Array Value) : laidMetH Tryz.prog laidC ((World.doorLaid Tryz.prog 400 os).forCall (fun _ _ => 0) ⟨#[], args, []⟩).memory :=
 laidMetH_of_parts3 (fuel := 8) (laidMet_of_run' 8 (by kernel_rfl) (by kernel_rfl)) (by kernel_rfl) (by kernel_rfl)

section
variable {H : Type} {enc : TypeId × Value → H} {w : World} {sp : Nat → Bool} {held : Bool}
set_option maxRecDepth 100000 in
theorem open_two {n : Nat} {cs : List Value} {x : DataW H × List MemPlace} (h : DataW.trod enc Tryz.prog w 0 sp held n 271 cs = some x) : ∃ a b : Bool, cs = [.bool a, .bool b] ∧ x.1 = .agg [.lit (.bool a), .lit (.bool b)] := by
 have c4 : Tryz.prog.cellsOf 4 = 1 := by kernel_rfl
 have c2 : Tryz.prog.cellsOf 271 = 2 := by kernel_rfl
 obtain ⟨xs, m, _, hx, hl, hn, hf⟩ := DataW.trod_array Tryz.underlying271 h
 rw [c2] at hl
 match cs, hl, xs, hn with
 | [v0, v1], _, [y0, y1], _ =>
   have f0 := hf 0 (by decide)
   have f1 := hf 1 (by decide)
   simp [c4] at f0 f1
   obtain ⟨a, e0, g0⟩ := DataW.trod_bool Tryz.underlying4 f0
   obtain ⟨b, e1, g1⟩ := DataW.trod_bool Tryz.underlying4 f1
   simp at e0 e1
   subst e0 e1 g0 g1
   exact ⟨a, b, rfl, by rw [hx]; rfl⟩
end

set_option maxRecDepth 100000 in
theorem codes_of_laid {W : World} (h0 : laidMetH Tryz.prog laidC W) : Codes W := by
 have h := h0.filter (fun x => x.1 == "dasd/spanned.codes")
 have e : (laidC (H := Unit)).filter (fun x => x.1 == "dasd/spanned.codes") = [("dasd/spanned.codes", Rows.laid_dasd_spanned_codes)] := by kernel_rfl
 rw [e, MakeChecks.laidMetH_plain _ _ _ (by kernel_rfl)] at h
 obtain ⟨ps, ⟨g0, t0, cs0, f0, p0, q0, hg0, ht0, hv0, hd0, _, _⟩, _, _⟩ := h
 obtain rfl := Option.some.inj (gCodes.symm.trans hg0)
 obtain rfl := Option.some.inj (tCodes.symm.trans ht0)
 have c2 : Tryz.prog.cellsOf 271 = 2 := by kernel_rfl
 have c8 : Tryz.prog.cellsOf 272 = 8 := by kernel_rfl
 obtain ⟨xs, m, _, hx, hl, hn, hf⟩ := DataW.trod_array Tryz.underlying272 hd0
 rw [c8] at hl
 obtain ⟨cs⟩ := cs0
 simp only at hl hf
 match cs, hl, xs, hn with
 | [v0, v1, v2, v3, v4, v5, v6, v7], _, [y0, y1, y2, y3], _ =>
   have k0 := hf 0 (by decide)
   have k1 := hf 1 (by decide)
   have k2 := hf 2 (by decide)
   have k3 := hf 3 (by decide)
   simp [c2] at k0 k1 k2 k3
   obtain ⟨a0, b0, e0, z0⟩ := open_two k0
   obtain ⟨a1, b1, e1, z1⟩ := open_two k1
   obtain ⟨a2, b2, e2, z2⟩ := open_two k2
   obtain ⟨a3, b3, e3, z3⟩ := open_two k3
   simp only [List.cons.injEq, and_true] at e0 e1 e2 e3
   obtain ⟨rfl, rfl⟩ := e0
   obtain ⟨rfl, rfl⟩ := e1
   obtain ⟨rfl, rfl⟩ := e2
   obtain ⟨rfl, rfl⟩ := e3
   have hx1 := congrArg Prod.fst hx
   simp only [List.map_cons, List.map_nil, z0, z1, z2, z3] at hx1
   simp [Rows.laid_dasd_spanned_codes] at hx1
   obtain ⟨⟨rfl, rfl⟩, ⟨rfl, rfl⟩, ⟨rfl, rfl⟩, ⟨rfl, rfl⟩⟩ := hx1
   have hc := fun i => World.var?_cell hg0 hv0 i
   exact ⟨block_lt_of_cell (hc 0), hc 0, hc 1, hc 2, hc 3, hc 4, hc 5, hc 6, hc 7⟩
end

section
open Go.RowKit Go.Sort
variable {z : Rest}

section
attribute [local go_sem ↓] loadCo_down storeCo_down loadCh_down loadNum_down
end
end

section
open Go.ChangeShapes Go.WideShapes Go.ChangeAt Go.RowKit Go.Deep

section
variable {H : Type} {enc : TypeId × Value → H} {w : World} {sp : Nat → Bool} {held : Bool}
theorem cRec : Tryz.prog.cellsOf 35 = 3 := by kernel_rfl
theorem cChgs : Tryz.prog.cellsOf 33 = 1 := by kernel_rfl

set_option maxRecDepth 100000 in
theorem open_ch {n : Nat} {cs : List Value} {x : DataW H × List MemPlace} (h : DataW.trod enc Tryz.prog w 0 sp held n 28 cs = some x) :
   ∃ c : Ch, cs = c.cs.toList ∧ I64 c.kind := by
 obtain ⟨xs, m, _, _, hl, hlen, hg⟩ := DataW.trod_struct Tryz.underlying28 h
 rw [cChg] at hl
 match cs, hl, xs, hlen with
 | [c0, c1, c2, c3, c4], _, [u0, u1, u2, u3, u4], _ =>
   have g0 := hg 0 _ rfl
   have g1 := hg 1 _ rfl
   have g2 := hg 2 _ rfl
   have g3 := hg 3 _ rfl
   have g4 := hg 4 _ rfl
   simp [cInt, cStr] at g0 g1 g2 g3 g4
   obtain ⟨k1, e1, _, w1⟩ := DataW.trod_int Tryz.underlying3 g0
   obtain ⟨k2, e2, _, w2⟩ := DataW.trod_int Tryz.underlying3 g1
   obtain ⟨k3, e3, _, w3⟩ := DataW.trod_string Tryz.underlying9 g2
   obtain ⟨k4, e4, _, w4⟩ := DataW.trod_string Tryz.underlying9 g3
   obtain ⟨k5, e5, _, w5⟩ := DataW.trod_string Tryz.underlying9 g4
   simp at e1 e2 e3 e4 e5
   subst e1 e2 e3 e4 e5
   exact ⟨⟨k1, k2, k3.data.toList, k4.data.toList, k5.data.toList⟩, rfl, w1⟩
instance : Inhabited Ch := ⟨⟨0, 0, [], [], []⟩⟩
set_option maxRecDepth 100000 in
theorem open_chs {n : Nat} {v : Value} {x : DataW H × List MemPlace} (h : DataW.trod enc Tryz.prog w 0 sp held n 33 [v] = some x) :
   ∃ a cap l, v = .slice a l.length cap ∧ Chs w w.heap.size a l ∧ l.length ≤ cap ∧ cap ≤ maxLen ∧ ∀ c ∈ l, I64 c.kind := by
 rcases open_slice (e := 28) Tryz.underlying33 h with ⟨hc, _⟩ | ⟨a, len, cap, m, n', D, Pl, hc, _, hl, hcap, hm, _, hV⟩
 · obtain rfl : v = .slice none 0 0 := by simpa using hc
   exact ⟨none, 0, [], rfl, ⟨fun h => absurd rfl h⟩, Nat.zero_le _, Nat.zero_le _, fun c hc => by cases hc⟩
 · obtain rfl : v = .slice (some a) len cap := by simpa using hc
   have hlm : len ≤ m := by subst hm; split <;> omega
   obtain ⟨Z, hZ⟩ := choose_lt (α := Ch) (p := fun i r => w.cells? 0 (a.add (i * 5)) 5 = some r.cs.toList ∧ I64 r.kind) (n := len) (fun i hi => by
     obtain ⟨cs, h1, h2⟩ := hV i (by omega)
     obtain ⟨r, rfl, hk⟩ := open_ch h2
     rw [cChg] at h1
     exact ⟨r, h1, hk⟩)
   refine ⟨some a, cap, (List.range len).map Z, by simp, ⟨fun hne => ?_⟩, by simpa using hl, hcap, fun c hc => ?_⟩
   · have h0 : 0 < len := by
       rcases Nat.eq_zero_or_pos len with h | h
       · subst h; simp at hne
       · exact h
     have hc0 := (World.cells?_some (hZ 0 h0).1).2.2 0 (by simp)
     have e0 : (a.add (0 * 5)).add 0 = a := by simp [Addr.add]
     rw [e0] at hc0
     have hs := spot_none (v := .int .i64 (Z 0).kind) hc0
     obtain ⟨b, off, spot⟩ := a
     simp only at hs
     subst hs
     refine ⟨b, off, rfl, block_lt_of_cell (v := .int .i64 (Z 0).kind) hc0, fun i hi => ?_⟩
     rw [List.length_map, List.length_range] at hi
     have q := (World.cells?_some (hZ i hi).1).2.2
     have q0 := q 0 (by simp)
     have q1 := q 1 (by simp)
     have q2 := q 2 (by simp)
     have q3 := q 3 (by simp)
     have q4 := q 4 (by simp)
     rw [add_plain, add_plain] at q0 q1 q2 q3 q4
     rw [Nat.add_zero] at q0
     rw [List.getElem_map, List.getElem_range]
     exact ⟨q0, q1, q2, q3, q4⟩
   · obtain ⟨i, hi, rfl⟩ := List.mem_map.1 hc
     exact (hZ i (List.mem_range.1 hi)).2
set_option maxRecDepth 100000 in
theorem open_rec0 {n : Nat} {cs : List Value} {x : DataW H × List MemPlace} (h : DataW.trod enc Tryz.prog w 0 sp held n 35 cs = some x) :
   ∃ r : Lr, cs = r.cs.toList ∧ (Chs w w.heap.size r.a r.l ∧ r.l.length ≤ r.cap ∧ r.cap ≤ maxLen) ∧ ∀ c ∈ r.l, I64 c.kind := by
 obtain ⟨xs, m, _, _, hl, hlen, hf⟩ := DataW.trod_struct Tryz.underlying35 h
 rw [cRec] at hl
 match cs, hl, xs, hlen with
 | [c0, c1, c2], _, [u0, u1, u2], _ =>
   have g0 := hf 0 _ rfl
   have g1 := hf 1 _ rfl
   have g2 := hf 2 _ rfl
   simp [cInt, cChgs] at g0 g1 g2
   obtain ⟨k0, e0, _, w0⟩ := DataW.trod_int Tryz.underlying3 g0
   obtain ⟨k1, e1, _, w1⟩ := DataW.trod_int Tryz.underlying3 g1
   obtain ⟨a, cap, l, e2, h1, h2, h3, h4⟩ := open_chs g2
   simp at e0 e1
   subst e0 e1 e2
   exact ⟨⟨k0, k1, a, cap, l⟩, rfl, ⟨h1, h2, h3⟩, h4⟩
set_option maxRecDepth 100000 in
theorem open_recs {r : Reach} {b0 : Nat} {v : Value} {d : DataW H} {ps : List MemPlace} (hv : Value.okWide Tryz.prog w r b0 48 v) (h : DataW.Trod enc Tryz.prog w 0 sp held 48 v d ps) :
   ∃ a cap R, v = .slice a R.length cap ∧ Recs w w.heap.size a R ∧ ∀ x ∈ R, ∀ c ∈ x.l, I64 c.kind := by
 obtain ⟨n, hn⟩ := h
 obtain ⟨a0, len0, cap0, rfl⟩ := okWide_slice Tryz.underlying48 hv
 rcases open_slice (e := 35) Tryz.underlying48 hn with ⟨hc, _⟩ | ⟨a, len, cap, m, n', D, Pl, hc, _, hl, hcap, hm, _, hV⟩
 · simp [Value.cells] at hc
   obtain ⟨rfl, rfl, rfl⟩ := hc
   exact ⟨none, 0, [], rfl, recs_nil _ _ _, fun x hx => by cases hx⟩
 · simp [Value.cells] at hc
   obtain ⟨rfl, rfl, rfl⟩ := hc
   have hlm : len0 ≤ m := by subst hm; split <;> omega
   obtain ⟨Z, hZ⟩ := choose_lt (α := Lr) (p := fun i x => w.cells? 0 (a.add (i * 3)) 3 = some x.cs.toList ∧ (Chs w w.heap.size x.a x.l ∧ x.l.length ≤ x.cap ∧ x.cap ≤ maxLen) ∧ ∀ c ∈ x.l, I64 c.kind) (n := len0) (fun i hi => by
     obtain ⟨cs, h1, h2⟩ := hV i (by omega)
     obtain ⟨x, rfl, hc1, hc2⟩ := open_rec0 h2
     rw [cRec] at h1
     exact ⟨x, h1, hc1, hc2⟩)
   refine ⟨some a, cap0, (List.range len0).map Z, by simp, ⟨fun hne => ?_, fun x hx => ?_⟩, fun x hx => ?_⟩
   · have h0 : 0 < len0 := by
       rcases Nat.eq_zero_or_pos len0 with h | h
       · subst h; simp at hne
       · exact h
     have hc0 := (World.cells?_some (hZ 0 h0).1).2.2 0 (by simp)
     have e0 : (a.add (0 * 3)).add 0 = a := by simp [Addr.add]
     rw [e0] at hc0
     have hs := spot_none (v := .int .i64 (Z 0).num) hc0
     obtain ⟨b, off, spot⟩ := a
     simp only at hs
     subst hs
     refine ⟨b, off, rfl, block_lt_of_cell (v := .int .i64 (Z 0).num) hc0, fun i hi j v hj => ?_⟩
     rw [List.length_map, List.length_range] at hi
     have hj2 : j < 3 := by
       have := (List.getElem?_eq_some_iff.1 hj).1
       simpa using this
     have q := (World.cells?_some (hZ i hi).1).2.2 j hj2
     rw [add_plain, add_plain] at q
     rw [q]
     rw [List.getElem_map, List.getElem_range] at hj
     exact hj
   · obtain ⟨i, hi, rfl⟩ := List.mem_map.1 hx
     exact (hZ i (List.mem_range.1 hi)).2.1
   · obtain ⟨i, hi, rfl⟩ := List.mem_map.1 hx
     exact (hZ i (List.mem_range.1 hi)).2.2
end
end

section
open Go.ChangeShapes Go.WideShapes Go.ChangeAt Go.RowKit Go.Deep
variable {H : Type} {enc : TypeId × Value → H} {w : World} {sp : Nat → Bool} {held : Bool}

set_option maxRecDepth 100000 in
theorem recs_cap {r : Reach} {b0 n cap : Nat} {a : Option Addr} {d : DataW H} {ps : List MemPlace} (hv : Value.okWide Tryz.prog w r b0 48 (.slice a n cap)) (h : DataW.Trod enc Tryz.prog w 0 sp held 48 (.slice a n cap) d ps) :
   n ≤ cap ∧ (a = none → cap = 0) := by
 obtain ⟨k, hk⟩ := h
 obtain ⟨a0, len0, cap0, he⟩ := okWide_slice Tryz.underlying48 hv
 cases he
 rcases open_slice (e := 35) Tryz.underlying48 hk with ⟨hc, _⟩ | ⟨b, len, c, m, n', D, Pl, hc, _, hl, hcap, hm, _, hV⟩
 · simp [Value.cells] at hc
   obtain ⟨rfl, rfl, rfl⟩ := hc
   exact ⟨Nat.le_refl _, fun _ => rfl⟩
 · simp [Value.cells] at hc
   obtain ⟨rfl, rfl, rfl⟩ := hc
   exact ⟨by omega, fun h => by cases h⟩
end

end Go.Proofs.YtckpepfkfjdnhaaGreatDoor

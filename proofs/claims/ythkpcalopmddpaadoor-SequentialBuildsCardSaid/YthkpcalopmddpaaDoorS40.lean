/-
  Walks: whether two lists of writes are the same.
-/
import Derived.Test.YthkpcalopmddpaaDoorWR
namespace Go.Proofs.YthkpcalopmddpaaDoor
open Go.RowKit Go.Sort

/-- Writes in memory. -/
structure Wrs (w : World) (a : Option Addr) (l : List (Nat × By)) : Prop where
  cells : l ≠ [] → ∃ b, a = some ⟨b, 0, none⟩ ∧ ∀ i (h : i < l.length), w.cell? ⟨b, i * 2, none⟩ = some (.int .i64 l[i].1) ∧ w.cell? ⟨b, i * 2 + 1, none⟩ = some (.string ⟨l[i].2.toArray⟩)
theorem Wrs.get {w : World} {a : Option Addr} {l : List (Nat × By)} (h : Wrs w a l) {i : Nat} (hi : i < l.length) : ∃ b, a = some ⟨b, 0, none⟩ ∧ w.cell? ⟨b, i * 2, none⟩ = some (.int .i64 l[i].1) ∧ w.cell? ⟨b, i * 2 + 1, none⟩ = some (.string ⟨l[i].2.toArray⟩) := by
  obtain ⟨b, h1, h2⟩ := h.cells (fun e => by rw [e] at hi; simp at hi)
  exact ⟨b, h1, h2 i hi⟩
theorem wrs_of_row {w : World} {base : Nat} {e : TypeId} {v : Value} {l : List (Nat × By)} (h : w.ownsRow base e 2 v l.length (flatW l)) : ∃ a cap, v = .slice a l.length cap ∧ Wrs w a l := by
  rcases h.2 with ⟨rfl, hn⟩ | ⟨g, cap, cur, rfl, hbase, hblk, q1, q2, q3, q4⟩
  · have : l = [] := List.length_eq_zero_iff.1 hn
    subst this; exact ⟨none, 0, rfl, ⟨fun h => absurd rfl h⟩⟩
  · refine ⟨_, cap, rfl, ⟨fun _ => ⟨g, rfl, fun i hi => ?_⟩⟩⟩
    have hf := flatW_get l i hi
    rw [← q4, List.getElem?_take, if_pos (by omega), List.getElem?_take, if_pos (by omega)] at hf
    rw [cell_of_row w g _ cur e (0, 0) hblk, cell_of_row w g _ cur e (0, 0) hblk]
    exact ⟨by simpa using hf.1, by simpa [sv] using hf.2⟩

set_option maxRecDepth 100000 in
set_option maxHeartbeats 2000000 in
theorem same_any (w : World) (a b : Option Addr) (c d : Nat) (l m : List (Nat × By)) (ha : Wrs w a l) (hb : Wrs w b m) (hl : l.length ≤ 4000000000) (hm : m.length ≤ 4000000000) :
    Calls Tryd.prog 17 #[.slice a l.length c, .slice b m.length d] w fun e w' => e = .returned (.bool (decide (l = m))) ∧ Below w.heap.size w w' := by
  by_cases hlen : l.length = m.length
  · go_enter Tryd.func17, Tryd.ntmps17
    have hne : ((l.length : Int) != (m.length : Int)) = false := by rw [hlen]; simp
    have hne2 : (l.length != m.length) = false := by rw [hlen]; simp
    have HL := Lib.hid hlen
    clear hlen
    go_wp2_with fail
    go_loopw [5] (fun k wr => ∃ j : Nat, j ≤ l.length ∧ k = .int .i64 j ∧ Below w.heap.size w wr ∧ l.take j = m.take j) (fun k _ => l.length - (intOf k).toNat)
    case atStart => exact ⟨0, by omega, rfl, Below.refl _ _, rfl⟩
    case round =>
      obtain ⟨j, hj, rfl, hbw, hE⟩ := hrel
      have HBW := Lib.hid hbw
      by_cases hlt : j < l.length
      · obtain ⟨b1, rfl, x1, x2⟩ := ha.get hlt
        obtain ⟨b2, rfl, y1, y2⟩ := hb.get (HL.out ▸ hlt)
        have hltm : j < m.length := HL.out ▸ hlt
        replace x1 := (hbw.cell (block_lt_of_cell x1)).trans x1
        replace x2 := (hbw.cell (block_lt_of_cell x2)).trans x2
        replace y1 := (hbw.cell (block_lt_of_cell y1)).trans y1
        replace y2 := (hbw.cell (block_lt_of_cell y2)).trans y2
        clear hbw
        have HE := Lib.hid hE
        clear hE
        generalize hx : l[j] = x at x1 x2
        generalize hy : m[j] = y at y1 y2
        have HX := Lib.hid hx
        have HY := Lib.hid hy
        clear hx hy
        obtain ⟨xn, xd⟩ := x
        obtain ⟨yn, yd⟩ := y
        simp only at x1 x2 y1 y2
        by_cases h1 : xn = yn
        · subst h1
          by_cases h2 : xd = yd
          · subst h2
            have HN := Lib.hid (show l.take (j + 1) = m.take (j + 1) by rw [take_snoc' l j hlt, take_snoc' m j hltm, HE.out, HX.out, HY.out])
            go_wp2_with fail
            go_region
            go_wp2_with fail
            go_roundw
            case rel => exact ⟨j + 1, by omega, by go_num, below_drewN HBW.out 1, HN.out⟩
            case measure => simp [intOf]; omega
          · have H := Lib.hid (show decide (l = m) = false by
              rw [decide_eq_false_iff_not]; intro e; subst e
              exact h2 (Prod.mk.inj (HX.out.symm.trans HY.out)).2)
            go_wp2_with fail
            go_region
            go_wp2_with fail
            go_ret
            exact ⟨by rw [H.out]; rfl, by first | exact HBW.out | exact below_drewN HBW.out 1⟩
        · have H := Lib.hid (show decide (l = m) = false by
            rw [decide_eq_false_iff_not]; intro e; subst e
            exact h1 (Prod.mk.inj (HX.out.symm.trans HY.out)).1)
          have h1' : ¬ (xn : Int) = (yn : Int) := by omega
          go_wp2_with fail
          go_region
          go_wp2_with fail
          go_ret
          exact ⟨by rw [H.out]; rfl, by first | exact HBW.out | exact below_drewN HBW.out 1⟩
      · have H := Lib.hid (show decide (l = m) = true by
          rw [decide_eq_true_iff, ← List.take_of_length_le (show l.length ≤ j by omega), hE, List.take_of_length_le (by rw [← HL.out]; omega)])
        clear hE hbw
        go_wp2_with fail
        go_ret
        exact ⟨by rw [H.out]; rfl, by first | exact HBW.out | exact below_drewN HBW.out 1⟩
  · have H := Lib.hid (show decide (l = m) = false by rw [decide_eq_false_iff_not]; intro e; exact hlen (by rw [e]))
    have hne : ((l.length : Int) != (m.length : Int)) = true := by simp; omega
    have hne2 : (l.length != m.length) = true := by simp; omega
    clear hlen
    go_enter Tryd.func17, Tryd.ntmps17
    go_wp2_with fail
    go_ret
    exact ⟨by rw [H.out]; rfl, Below.refl _ _⟩

end Go.Proofs.YthkpcalopmddpaaDoor

/-
  Walk: whether two lists of texts are the same.
-/
import Derived.Test.YtcidbmldbikknaaDoorE14
namespace Go.Proofs.YtcidbmldbikknaaDoor
open Go.RowKit Go.Sort
attribute [local go_sem] ByteArray.mk_append_mk strOfNums_size ext_drop ext_take

set_option maxRecDepth 100000 in
set_option maxHeartbeats 2000000 in
theorem rsame_any (w : World) (B B2 : Nat) (a b : Option Addr) (c d : Nat) (l m : List By) (ha : Strs w B a l) (hb : Strs w B2 b m) (hl : l.length ≤ 4000000000) (hm : m.length ≤ 4000000000) :
    Calls Tryd.prog 7 #[.slice a l.length c, .slice b m.length d] w fun e w' => e = .returned (.bool (decide (l = m))) ∧ Below w.heap.size w w' := by
  by_cases hlen : l.length = m.length
  · go_enter Tryd.func7, Tryd.ntmps7
    have hne : ((l.length : Int) != (m.length : Int)) = false := by rw [hlen]; simp
    have hne2 : (l.length != m.length) = false := by rw [hlen]; simp
    have HL := Lib.hid hlen
    clear hlen
    go_wp2_with fail
    go_loopw [5] (fun k wr => ∃ j : Nat, j ≤ l.length ∧ k = .int .i64 j ∧ Below w.heap.size w wr ∧ l.take j = m.take j) (fun k _ => l.length - (intOf k).toNat)
    case atStart => exact ⟨0, by omega, rfl, Below.refl _ _, rfl⟩
    case round =>
      obtain ⟨j, hj, rfl, hbw, hE⟩ := hrel
      have HBW := Lib.hid hbw
      by_cases hlt : j < l.length
      · obtain ⟨b1, o1, rfl, _, x1⟩ := ha.get hlt
        obtain ⟨b2, o2, rfl, _, y1⟩ := hb.get (HL.out ▸ hlt)
        have hltm : j < m.length := HL.out ▸ hlt
        replace x1 := (hbw.cell (block_lt_of_cell x1)).trans x1
        replace y1 := (hbw.cell (block_lt_of_cell y1)).trans y1
        clear hbw
        have HE := Lib.hid hE
        clear hE
        generalize hx : l[j] = x at x1
        generalize hy : m[j] = y at y1
        have HX := Lib.hid hx
        have HY := Lib.hid hy
        clear hx hy
        by_cases h2 : x = y
        · subst h2
          have HN := Lib.hid (show l.take (j + 1) = m.take (j + 1) by rw [take_snoc' l j hlt, take_snoc' m j hltm, HE.out, HX.out, HY.out])
          go_wp2_with fail
          go_region
          go_wp2_with fail
          go_roundw
          case rel => exact ⟨j + 1, by omega, by go_num, below_drewN HBW.out 1, HN.out⟩
          case measure => simp [intOf]; omega
        · have H := Lib.hid (show decide (l = m) = false by
            rw [decide_eq_false_iff_not]; intro e; subst e
            exact h2 (HX.out.symm.trans HY.out))
          have hxb : (x == y) = false := by simpa using h2
          clear h2
          go_wp2_with fail
          go_region
          go_wp2_with fail
          go_ret
          exact ⟨by rw [H.out]; rfl, by first | exact HBW.out | exact below_drewN HBW.out 1⟩
      · have H := Lib.hid (show decide (l = m) = true by
          rw [decide_eq_true_iff, ← List.take_of_length_le (show l.length ≤ j by omega), hE, List.take_of_length_le (by rw [← HL.out]; omega)])
        clear hE hbw
        go_wp2_with fail
        go_ret
        exact ⟨by rw [H.out]; rfl, HBW.out⟩
  · have H := Lib.hid (show decide (l = m) = false by rw [decide_eq_false_iff_not]; intro e; subst e; exact hlen rfl)
    have hne : ((l.length : Int) != (m.length : Int)) = true := by simp; omega
    have hne2 : (l.length != m.length) = true := by simp; omega
    clear hlen
    go_enter Tryd.func7, Tryd.ntmps7
    go_wp2_with fail
    go_ret
    exact ⟨by rw [H.out]; rfl, Below.refl _ _⟩

end Go.Proofs.YtcidbmldbikknaaDoor

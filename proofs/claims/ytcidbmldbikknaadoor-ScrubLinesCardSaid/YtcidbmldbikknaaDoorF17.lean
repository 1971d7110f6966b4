/-
  Walk: the law ScrubLines. Conditions: the report in memory; the library's table in memory.
-/
import Derived.Test.YtcidbmldbikknaaDoorF13
import Derived.Test.YtcidbmldbikknaaDoorF15
import Derived.Test.YtcidbmldbikknaaDoorF16
namespace Go.Proofs.YtcidbmldbikknaaDoor
open Go.RowKit Go.Sort
attribute [local go_sem ↓] loadSc_down storeSc_down

set_option maxRecDepth 100000 in
set_option maxHeartbeats 4000000 in
theorem law_lines (w : World) (B : Nat) (f u : Int) (ta : Option Addr) (tc : Nat) (sa : Option Addr) (sc : Nat) (ba : Option Addr) (bc : Nat) (te : List Rn) (sh : List Int) (bd : List Bd)
    (hf : okI f) (hu : okI u) (ht : Runs w B ta te) (hs : IntsAt w B sa sh) (hb : Bads w B ba bd) (hso : ∀ k ∈ sh, okI k) (hB : B ≤ w.heap.size) (htab : TabB B w) (h1 : te.length ≤ 9223372036854775807) (h2 : sh.length ≤ 9223372036854775807) (h3 : bd.length ≤ 9223372036854775807) :
    Calls Tryd.prog 3 #[.agg (scC f u ta te.length tc sa sh.length sc ba bd.length bc)] w fun e w' => e = .returned (.bool true) ∧ Below w.heap.size w w' := by
  obtain ⟨W0, hW0⟩ : ∃ W0, W0 = w.alloc (.cells (scC f u ta te.length tc sa sh.length sc ba bd.length bc) 26) := ⟨_, rfl⟩
  have hb0 : Below w.heap.size w W0 := by rw [hW0]; exact box_below w _ _
  have hd0 : W0.heap[w.heap.size]? = some (.cells (scC f u ta te.length tc sa sh.length sc ba bd.length bc) 26 (0, 0)) := by rw [hW0]; exact heap_alloc_new w _
  have HB0 := Lib.hid hb0
  have HD0 := Lib.hid hd0
  have HAW := Lib.hid (fun W (hb : Below w.heap.size w W) => awake_any W B (htab.on (hb.mono hB)) (Nat.le_trans hB hb.size))
  have HFW := Lib.hid (fun W => few15_any f u ta te.length tc sa sh.length sc ba bd.length bc W h1 h2 h3)
  have HW0 := Lib.hid hW0
  cases hq : fewSc te.length sh.length bd.length with
  | false =>
    rw [hq] at HFW
    clear ht hs hb hW0 htab hd0 hb0
    go_enter Tryd.func3, Tryd.ntmps3
    go_wp2_with fail
    rw [← HW0.out]
    refine (HAW.out W0 HB0.out).mono ?_
    rintro e w1 ⟨rfl, hb1⟩
    have HB1 := Lib.hid (HB0.out.trans (hb1.mono HB0.out.size))
    have hd1 := (hb1.block w.heap.size (lt_of_block HD0.out)).trans HD0.out
    have dl1 := loadSc_at hd1 rfl
    clear hb1 hd1
    go_wp2_with fail
    refine (HFW.out w1).mono ?_
    rintro e w2 ⟨rfl, hb2⟩
    have HB2 := Lib.hid (HB1.out.trans (hb2.mono HB1.out.size))
    clear hb2 dl1
    go_wp2_with fail
    refine (HAW.out w2 HB2.out).mono ?_
    rintro e w3 ⟨rfl, hb3⟩
    have HB3 := Lib.hid (HB2.out.trans (hb3.mono HB2.out.size))
    clear hb3
    go_wp2_with fail
    go_ret
    exact ⟨rfl, HB3.out⟩
  | true =>
    rw [hq] at HFW
    have hsm : te.length ≤ 30 ∧ sh.length ≤ 130 ∧ bd.length ≤ 100 := by
      simp only [fewSc, Bool.and_eq_true, decide_eq_true_eq] at hq
      omega
    have HP1 := Lib.hid (fun W (h : Below w.heap.size w W) => lines_any W B f u ta tc sa sc ba bc te sh bd hf hu (ht.below (h.mono hB)) (hs.below (h.mono hB)) (hb.below (h.mono hB)) hso (Nat.le_trans hB h.size) (htab.on (h.mono hB)) (by omega) (by omega) (by omega))
    have HP2 := Lib.hid (fun W (h : Below w.heap.size w W) => rlines_any W B f u ta tc sa sc ba bc te sh bd hf hu (ht.below (h.mono hB)) (hs.below (h.mono hB)) (hb.below (h.mono hB)) hso (Nat.le_trans hB h.size) (by omega) (by omega) (by omega))
    have hml : (linesP f u te sh bd).length ≤ 1000 := by simp [linesP]; omega
    generalize linesP f u te sh bd = M at HP1 HP2 hml
    have HML := Lib.hid hml
    clear ht hs hb hW0 htab hd0 hb0 hml
    go_enter Tryd.func3, Tryd.ntmps3
    go_wp2_with fail
    rw [← HW0.out]
    refine (HAW.out W0 HB0.out).mono ?_
    rintro e w1 ⟨rfl, hb1⟩
    have HB1 := Lib.hid (HB0.out.trans (hb1.mono HB0.out.size))
    have HD1 := Lib.hid ((hb1.block w.heap.size (lt_of_block HD0.out)).trans HD0.out)
    have dl1 := loadSc_at HD1.out rfl
    clear hb1
    go_wp2_with fail
    refine (HFW.out w1).mono ?_
    rintro e w6 ⟨rfl, hb6⟩
    have HB6 := Lib.hid (HB1.out.trans (hb6.mono HB1.out.size))
    have HD6 := Lib.hid ((hb6.block w.heap.size (lt_of_block HD1.out)).trans HD1.out)
    have dla : (loadSc ⟨w.heap.size, 0, none⟩).run Tryd.prog w6.drew = .ok (.agg (scC f u ta te.length tc sa sh.length sc ba bd.length bc)) w6.drew := loadSc_at (w := w6.drew) HD6.out rfl
    have HBX := Lib.hid (below_drewN HB6.out 1)
    clear hb6 dl1
    go_wp2_with fail
    go_region_held3 (fun w' => (loadSc ⟨w.heap.size, 0, none⟩).run Tryd.prog w' = .ok (.agg (scC f u ta te.length tc sa sh.length sc ba bd.length bc)) w') (first | assumption)
      ((first
        | (go_at_call 8
           refine (HP1.out w6.drew HBX.out).mono ?_
           rintro e w7 ⟨v7, rfl, ho7, hb7⟩
           have hb7 : Below w6.heap.size w6 w7 := below_drew1.trans hb7
           have HB7 := Lib.hid (HB6.out.trans (hb7.mono HB6.out.size))
           have HD7 := Lib.hid ((hb7.block w.heap.size (lt_of_block HD6.out)).trans HD6.out)
           have e0 := loadSc_at HD7.out rfl
           obtain ⟨a7, c7, rfl, hi7, _⟩ := strs_of_row ho7
           have HI7 := Lib.hid hi7
           clear hb7 ho7 hi7)
        | (go_at_call 9
           refine (HP2.out w7 HB7.out).mono ?_
           rintro e w8 ⟨v8, rfl, ho8, hb8⟩
           have HB8 := Lib.hid (HB7.out.trans (hb8.mono HB7.out.size))
           have HD8 := Lib.hid ((hb8.block w.heap.size (lt_of_block HD7.out)).trans HD7.out)
           have k0 := loadSc_at HD8.out rfl
           have HI78 := Lib.hid (HI7.out.below hb8)
           obtain ⟨a8, c8, rfl, hi8, _⟩ := strs_of_row ho8
           have HRI := Lib.hid (rsame_any w8 w7.heap.size w8.heap.size a7 a8 c7 c8 M M HI78.out hi8 (by have := HML.out; omega) (by have := HML.out; omega))
           rw [show decide (M = M) = true by simp] at HRI
           clear hb8 ho8 hi8)
        | (go_at_call 7
           refine HRI.out.mono ?_
           rintro e w9 ⟨rfl, hb9⟩
           have HB9 := Lib.hid (HB8.out.trans (hb9.mono HB8.out.size))
           have HD9 := Lib.hid ((hb9.block w.heap.size (lt_of_block HD8.out)).trans HD8.out)
           have m0 := loadSc_at HD9.out rfl
           clear hb9)))
    go_wp2_with fail
    go_ret
    exact ⟨rfl, HB9.out⟩

end Go.Proofs.YtcidbmldbikknaaDoor

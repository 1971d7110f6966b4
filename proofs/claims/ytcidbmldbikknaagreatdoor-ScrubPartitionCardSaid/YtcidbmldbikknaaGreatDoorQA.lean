/-
  Walks: the conditions of a valid label (closures), exactly. Conditions: the captured variables in memory.
  Walk: a valid label, exactly. Conditions: its extents in memory; numbers of 64 bits.
  Walk: a valid table, exactly. Conditions: the table in memory; numbers of 64 bits; a short name.
-/
import Derived.Test.YtcidbmldbikknaaGreatDoorPA
import Derived.Test.YtcidbmldbikknaaGreatDoorPC
import Derived.Laws.EntriesVeiled
import Derived.Deep.RegionLaw
import Derived.Lib.QuietBelow
namespace Go.Proofs.YtcidbmldbikknaaGreatDoor

section
open Go.RowKit Go.Sort

set_option maxRecDepth 100000 in
theorem xv1_any (g : Nat) (n : Int) (w : World) (h : w.cell? ⟨g, 0, none⟩ = some (.int .i64 n)) :
    Calls Tryz.prog 65 #[.pointer (some ⟨g, 0, none⟩)] w fun e w' => e = .returned (.bool (tvP n)) ∧ w = w' := by
  have HT := Lib.hid (tracksok_any n w)
  generalize tvP n = q at HT ⊢
  go_enter Tryz.func65, Tryz.ntmps65
  go_wp2_with fail
  refine HT.out.mono ?_
  rintro e w1 ⟨rfl, rfl⟩
  go_wp2_with fail
  go_ret
  exact ⟨rfl, rfl⟩

def c2B (i u : Int) : Bool := decide (1 ≤ i ∧ i ≤ 1099511627776 ∧ 0 ≤ u ∧ u ≤ 1099511627776)
set_option maxRecDepth 100000 in
set_option maxHeartbeats 2000000 in
theorem xv2_any (g : Nat) (i u : Int) (v2 v3 v4 : Value) (w : World) (h : w.heap[g]? = some (.cells #[.int .i64 i, .int .i64 u, v2, v3, v4] 43 (0, 0))) :
    Calls Tryz.prog 66 #[.pointer (some ⟨g, 0, none⟩)] w fun e w' => e = .returned (.bool (c2B i u)) ∧ w = w' := by
  have c0 := cell_at (i := 0) (v := .int .i64 i) h rfl
  have c1 := cell_at (i := 1) (v := .int .i64 u) h rfl
  obtain ⟨q, hq⟩ : ∃ q, q = c2B i u := ⟨_, rfl⟩
  rw [← hq]
  have HQ := Lib.hid hq
  clear h hq
  by_cases h1 : 1 ≤ i
  · by_cases h2 : i ≤ 1099511627776
    · by_cases h3 : 0 ≤ u
      · by_cases h4 : u ≤ 1099511627776
        · have HF := Lib.hid (show q = true by rw [HQ.out]; exact decide_eq_true ⟨h1, h2, h3, h4⟩)
          go_enter Tryz.func66, Tryz.ntmps66
          go_wp2_with fail
          go_ret
          rw [HF.out]
          exact ⟨rfl, rfl⟩
        · have HF := Lib.hid (show q = false by rw [HQ.out]; exact decide_eq_false fun h => h4 h.2.2.2)
          go_enter Tryz.func66, Tryz.ntmps66
          go_wp2_with fail
          go_ret
          rw [HF.out]
          exact ⟨rfl, rfl⟩
      · have HF := Lib.hid (show q = false by rw [HQ.out]; exact decide_eq_false fun h => h3 h.2.2.1)
        go_enter Tryz.func66, Tryz.ntmps66
        go_wp2_with fail
        go_ret
        rw [HF.out]
        exact ⟨rfl, rfl⟩
    · have HF := Lib.hid (show q = false by rw [HQ.out]; exact decide_eq_false fun h => h2 h.2.1)
      go_enter Tryz.func66, Tryz.ntmps66
      go_wp2_with fail
      go_ret
      rw [HF.out]
      exact ⟨rfl, rfl⟩
  · have HF := Lib.hid (show q = false by rw [HQ.out]; exact decide_eq_false fun h => h1 h.1)
    go_enter Tryz.func66, Tryz.ntmps66
    go_wp2_with fail
    go_ret
    rw [HF.out]
    exact ⟨rfl, rfl⟩

def c3B (n m : Nat) : Bool := decide (n ≤ 31 ∧ m ≤ 400)
set_option maxRecDepth 100000 in
set_option maxHeartbeats 2000000 in
theorem xv3_any (g : Nat) (v0 v1 : Value) (s t : By) (v4 : Value) (w : World) (h : w.heap[g]? = some (.cells #[v0, v1, .string ⟨s.toArray⟩, .string ⟨t.toArray⟩, v4] 43 (0, 0))) :
    Calls Tryz.prog 67 #[.pointer (some ⟨g, 0, none⟩)] w fun e w' => e = .returned (.bool (c3B s.length t.length)) ∧ w = w' := by
  have c2 := cell_at (i := 2) (v := .string ⟨s.toArray⟩) h rfl
  have c3 := cell_at (i := 3) (v := .string ⟨t.toArray⟩) h rfl
  obtain ⟨q, hq⟩ : ∃ q, q = c3B s.length t.length := ⟨_, rfl⟩
  rw [← hq]
  have HQ := Lib.hid hq
  clear h hq
  by_cases h1 : (s.length : Int) ≤ 31
  · by_cases h2 : (t.length : Int) ≤ 400
    · have HF := Lib.hid (show q = true by rw [HQ.out]; exact decide_eq_true ⟨by omega, by omega⟩)
      have h2d : decide ((t.length : Int) ≤ 400) = true := decide_eq_true h2
      go_enter Tryz.func67, Tryz.ntmps67
      go_wp2_with fail
      go_ret
      rw [HF.out]
      exact ⟨by first | rfl | simp [h2] | simp [h2d], rfl⟩
    · have HF := Lib.hid (show q = false by rw [HQ.out]; exact decide_eq_false fun h => h2 (by omega))
      have h2d : decide ((t.length : Int) ≤ 400) = false := decide_eq_false h2
      go_enter Tryz.func67, Tryz.ntmps67
      go_wp2_with fail
      go_ret
      rw [HF.out]
      exact ⟨by first | rfl | simp [h2] | simp [h2d] | (simp; omega), rfl⟩
  · have h1d : decide ((s.length : Int) ≤ 31) = false := decide_eq_false h1
    have HF := Lib.hid (show q = false by rw [HQ.out]; exact decide_eq_false fun h => h1 (by omega))
    go_enter Tryz.func67, Tryz.ntmps67
    go_wp2_with fail
    go_ret
    rw [HF.out]
    exact ⟨by first | rfl | simp [h1] | simp [h1d] | (simp; omega), rfl⟩

def c4B (n : Nat) : Bool := decide (1 ≤ n ∧ n ≤ 16)
set_option maxRecDepth 100000 in
set_option maxHeartbeats 2000000 in
theorem xv4_any (g : Nat) (v0 v1 v2 v3 : Value) (a : Option Addr) (n c : Nat) (w : World) (h : w.heap[g]? = some (.cells #[v0, v1, v2, v3, .slice a n c] 43 (0, 0))) :
    Calls Tryz.prog 68 #[.pointer (some ⟨g, 0, none⟩)] w fun e w' => e = .returned (.bool (c4B n)) ∧ w = w' := by
  have c4 := cell_at (i := 4) (v := .slice a n c) h rfl
  obtain ⟨q, hq⟩ : ∃ q, q = c4B n := ⟨_, rfl⟩
  rw [← hq]
  have HQ := Lib.hid hq
  clear h hq
  by_cases h1 : (1 : Int) ≤ (n : Int)
  · by_cases h2 : (n : Int) ≤ 16
    · have HF := Lib.hid (show q = true by rw [HQ.out]; exact decide_eq_true ⟨by omega, by omega⟩)
      go_enter Tryz.func68, Tryz.ntmps68
      go_wp2_with fail
      go_ret
      rw [HF.out]
      exact ⟨rfl, rfl⟩
    · have HF := Lib.hid (show q = false by rw [HQ.out]; exact decide_eq_false fun h => h2 (by omega))
      go_enter Tryz.func68, Tryz.ntmps68
      go_wp2_with fail
      go_ret
      rw [HF.out]
      exact ⟨rfl, rfl⟩
  · have HF := Lib.hid (show q = false by rw [HQ.out]; exact decide_eq_false fun h => h1 (by omega))
    go_enter Tryz.func68, Tryz.ntmps68
    go_wp2_with fail
    go_ret
    rw [HF.out]
    exact ⟨rfl, rfl⟩

set_option maxRecDepth 100000 in
set_option maxHeartbeats 2000000 in
theorem xv6_any (w : World) (B g ba bb : Nat) (v0 v1 v2 v3 : Value) (ea : Option Addr) (ec : Nat) (l : List Rn) (f t : Int) (hg : w.heap[g]? = some (.cells #[v0, v1, v2, v3, .slice ea l.length ec] 43 (0, 0))) (h : Runs w B ea l) (hB : B ≤ w.heap.size) (hl : l.length ≤ 1000000) (hf : w.cell? ⟨ba, 0, none⟩ = some (.int .i64 f)) (ht : w.cell? ⟨bb, 0, none⟩ = some (.int .i64 t)) :
    Calls Tryz.prog 72 #[.pointer (some ⟨g, 0, none⟩), .pointer (some ⟨ba, 0, none⟩), .pointer (some ⟨bb, 0, none⟩)] w fun e w' => e = .returned (.bool (!(outP f t l 0).isSome)) ∧ Below w.heap.size w w' := by
  have HI := Lib.hid (containsrn_any w B ea ec l f t ba bb h hB hl hf ht)
  have c4 := cell_at (i := 4) (v := .slice ea l.length ec) hg rfl
  have hmf : ∀ (fn : Fn) (first cap : Array Value) (W : World), (Instr.makeFunc fn first cap).run Tryz.prog W = .ok (.func fn first cap) W := fun _ _ _ _ => rfl
  generalize (outP f t l 0).isSome = q at HI ⊢
  clear h hf ht hg
  go_enter Tryz.func72, Tryz.ntmps72
  go_wp2_with fail
  refine HI.out.mono ?_
  rintro e w1 ⟨rfl, hb1⟩
  have HB1 := Lib.hid hb1
  clear hb1
  go_wp2_with fail
  go_ret
  exact ⟨rfl, HB1.out⟩
end

section
open Go.RowKit Go.Sort

/-- The conditions of a valid label. -/
def condB (tr : Int) (x : Lab) : Nat → Bool
  | 0 => tvP tr
  | 1 => c2B x.id x.unit
  | 2 => c3B x.name.length x.note.length
  | 3 => c4B x.ext.length
  | 4 => decide (joinP x.ext = x.ext) && disjB x.ext
  | _ => !(outP (ttP tr) tr x.ext 0).isSome
/-- Whether a label is valid. -/
def labB (tr : Int) (x : Lab) : Bool := condB tr x 0 && (condB tr x 1 && (condB tr x 2 && (condB tr x 3 && (condB tr x 4 && condB tr x 5))))
theorem labB_false {tr : Int} {x : Lab} (n : Nat) (hn : n < 6) (h : condB tr x n = false) : labB tr x = false := by
  unfold labB
  rcases (show n = 0 ∨ n = 1 ∨ n = 2 ∨ n = 3 ∨ n = 4 ∨ n = 5 by omega) with rfl | rfl | rfl | rfl | rfl | rfl <;> simp [h]
theorem labB_true {tr : Int} {x : Lab} (h : ∀ i, i < 6 → condB tr x i = true) : labB tr x = true := by
  unfold labB
  simp [h 0 (by omega), h 1 (by omega), h 2 (by omega), h 3 (by omega), h 4 (by omega), h 5 (by omega)]
theorem labB_ok {tr : Int} {x : Lab} (h : labB tr x = true) : OkL tr x ∧ 1 ≤ x.ext.length := by
  unfold labB at h
  simp only [Bool.and_eq_true] at h
  obtain ⟨_, h2, _, h4, h5, h6⟩ := h
  refine AccL.fin ⟨fun _ => ?_, fun _ => ?_, fun _ => h5, fun _ => ?_⟩
  · have : c2B x.id x.unit = true := h2
    unfold c2B at this
    rw [decide_eq_true_eq] at this
    exact ⟨this.1, this.2.2.1⟩
  · have : c4B x.ext.length = true := h4
    unfold c4B at this
    simpa using this
  · have : (!(outP (ttP tr) tr x.ext 0).isSome) = true := h6
    exact outP_none _ _ _ 0 (by simpa using this)

set_option maxRecDepth 100000 in
set_option maxHeartbeats 4000000 in
theorem xlabel_any (w : World) (B : Nat) (x : Lab) (ea : Option Addr) (ec : Nat) (tr : Int) (h : Runs w B ea x.ext) (hB : B ≤ w.heap.size) (hl : x.ext.length ≤ 1000000) :
    Calls Tryz.prog 42 #[.agg (labV x ea ec), .int .i64 tr] w fun e w' => e = .returned (.bool (labB tr x)) ∧ Below w.heap.size w w' := by
  obtain ⟨V, hV⟩ : ∃ V, V = labB tr x := ⟨_, rfl⟩
  rw [← hV]
  have HVT := Lib.hid (show (∀ i, i < 6 → condB tr x i = true) → V = true from fun h => by rw [hV]; exact labB_true h)
  have HVF := Lib.hid (show ∀ n, n < 6 → condB tr x n = false → V = false from fun n hn h => by rw [hV]; exact labB_false n hn h)
  clear hV
  have HTT := Lib.hid (fun W => tabletracks_any tr W)
  obtain ⟨W0, hW0⟩ : ∃ W0, W0 = (w.alloc (.cells (labV x ea ec) 43)).alloc (.cells #[.int .i64 tr] 3) := ⟨_, rfl⟩
  have hb0 : Below w.heap.size w W0 := by rw [hW0]; exact two_below w _ _ _ _
  have hl0 : W0.heap[w.heap.size]? = some (.cells (labV x ea ec) 43 (0, 0)) := by rw [hW0, halloc _ _ (by simp)]; exact heap_alloc_new w _
  have ht0 : W0.heap[w.heap.size + 1]? = some (.cells #[.int .i64 tr] 3 (0, 0)) := by rw [hW0]; exact two_new w _ _ _ _
  have hs0 : W0.heap.size = w.heap.size + 2 := by rw [hW0]; simp
  have c3 := cell_at (i := 0) (v := .int .i64 tr) ht0 rfl
  have HW0 := Lib.hid hW0
  have hmf : ∀ (fn : Fn) (first cap : Array Value) (W : World), (Instr.makeFunc fn first cap).run Tryz.prog W = .ok (.func fn first cap) W := fun _ _ _ _ => rfl
  rw [hW0] at c3
  have HH := Lib.hid h
  have HB0 := Lib.hid hb0
  have HL0 := Lib.hid hl0
  have HT0 := Lib.hid ht0
  have HS0 := Lib.hid hs0
  clear hW0 h hb0 hl0 ht0 hs0
  go_enter Tryz.func42, Tryz.ntmps42
  go_wp2_with fail
  refine (HTT.out _).mono ?_
  rintro e w1 ⟨rfl, hw1⟩
  subst hw1
  rw [← HW0.out]
  clear c3
  go_wp2_with fail
  obtain ⟨W1, hW1⟩ : ∃ W1, W1 = (W0.alloc (.cells #[.int .i64 (ttP tr)] 3)).alloc (.cells #[.func (.func 65) #[] #[.pointer (some ⟨w.heap.size + 1, 0, none⟩)], .func (.func 66) #[] #[.pointer (some ⟨w.heap.size, 0, none⟩)], .func (.func 67) #[] #[.pointer (some ⟨w.heap.size, 0, none⟩)], .func (.func 68) #[] #[.pointer (some ⟨w.heap.size, 0, none⟩)], .func (.func 69) #[] #[.pointer (some ⟨w.heap.size, 0, none⟩)], .func (.func 72) #[] #[.pointer (some ⟨w.heap.size, 0, none⟩), .pointer (some ⟨W0.heap.size, 0, none⟩), .pointer (some ⟨w.heap.size + 1, 0, none⟩)]] 30) := ⟨_, rfl⟩
  have hb01 : Below W0.heap.size W0 W1 := by rw [hW1]; exact two_below W0 _ _ _ _
  have hb1 := HB0.out.trans (hb01.mono HB0.out.size)
  have hf1 : W1.heap[W0.heap.size]? = some (.cells #[.int .i64 (ttP tr)] 3 (0, 0)) := by rw [hW1, halloc _ _ (by simp)]; exact heap_alloc_new _ _
  have hr1 := two_new W0 #[.int .i64 (ttP tr)] #[.func (.func 65) #[] #[.pointer (some ⟨w.heap.size + 1, 0, none⟩)], .func (.func 66) #[] #[.pointer (some ⟨w.heap.size, 0, none⟩)], .func (.func 67) #[] #[.pointer (some ⟨w.heap.size, 0, none⟩)], .func (.func 68) #[] #[.pointer (some ⟨w.heap.size, 0, none⟩)], .func (.func 69) #[] #[.pointer (some ⟨w.heap.size, 0, none⟩)], .func (.func 72) #[] #[.pointer (some ⟨w.heap.size, 0, none⟩), .pointer (some ⟨W0.heap.size, 0, none⟩), .pointer (some ⟨w.heap.size + 1, 0, none⟩)]] 3 30
  rw [← hW1] at hr1
  have hl1 := (hb01.block _ (by rw [HS0.out]; omega)).trans HL0.out
  have ht1 := (hb01.block _ (by rw [HS0.out]; omega)).trans HT0.out
  have hs1 : W1.heap.size = w.heap.size + 4 := by rw [hW1]; simp; rw [HS0.out]
  have HB1 := Lib.hid hb1
  have HL1 := Lib.hid hl1
  have HT1 := Lib.hid ht1
  have HF1 := Lib.hid hf1
  have HR1 := Lib.hid hr1
  have HS1 := Lib.hid hs1
  rw [← hW1]
  clear hW1 hb01 hb1 hl1 ht1 hf1 hr1 hs1
  obtain ⟨gf, hgf⟩ : ∃ gf, gf = W0.heap.size := ⟨_, rfl⟩
  rw [← hgf] at HF1 HR1 ⊢
  have HGF := Lib.hid (show gf = w.heap.size + 2 by rw [hgf, HS0.out])
  have HEX := Lib.hid (HH.out.below (HB1.out.mono hB))
  have HBW := Lib.hid (Nat.le_trans hB HB1.out.size)
  clear hgf
  go_loopw [20] (fun k wr => ∃ j : Nat, j ≤ 6 ∧ k = .int .i64 j ∧ (∀ i, i < j → condB tr x i = true) ∧ Below W1.heap.size W1 wr) (fun k _ => 6 - (intOf k).toNat)
  case atStart => exact ⟨0, by omega, rfl, fun i hi => by omega, Below.refl _ _⟩
  case round =>
    obtain ⟨j, hj, rfl, hacc, hb⟩ := hrel
    have HB := Lib.hid hb
    have HA := Lib.hid hacc
    have hll := (hb.block _ (lt_of_block HL1.out)).trans HL1.out
    have hlt := (hb.block _ (lt_of_block HT1.out)).trans HT1.out
    have hlf := (hb.block _ (lt_of_block HF1.out)).trans HF1.out
    have hlr := (hb.block _ (lt_of_block HR1.out)).trans HR1.out
    have HEXW := Lib.hid (HEX.out.below (hb.mono HBW.out))
    have HBA := Lib.hid (HB1.out.trans (hb.mono HB1.out.size))
    rcases (show j = 6 ∨ j = 0 ∨ j = 1 ∨ j = 2 ∨ j = 3 ∨ j = 4 ∨ j = 5 by omega) with rfl | rfl | rfl | rfl | rfl | rfl | rfl
    · skip
      have HOK := Lib.hid (HVT.out hacc)
      clear hb hacc hll hlt hlf hlr
      go_wp2_with fail
      go_ret
      rw [HOK.out]
      exact ⟨rfl, HBA.out⟩
    · skip
      have cf := cell_at (i := 0) (v := .func (.func 65) #[] #[.pointer (some ⟨w.heap.size + 1, 0, none⟩)]) hlr rfl
      have HC := Lib.hid (xv1_any (w.heap.size + 1) tr wr (cell_at (i := 0) (v := .int .i64 tr) hlt rfl))
      clear hb hacc hll hlt hlf hlr
      go_wp2_with fail
      refine HC.out.mono ?_
      rintro e w2 ⟨rfl, hw⟩
      have HCQ := Lib.hid (show condB tr x 0 = tvP tr from rfl)
      generalize tvP tr = q at HCQ ⊢
      subst hw
      have HBN := Lib.hid HB.out
      have HBF := Lib.hid HBA.out
      clear cf
      cases q with
      | false =>
        go_wp2_with fail
        go_ret
        rw [HVF.out 0 (by omega) HCQ.out]
        exact ⟨rfl, HBF.out⟩
      | true =>
        have HAN := Lib.hid (show ∀ i, i < 1 → condB tr x i = true from fun i hi => by
          by_cases e : i = 0
          · rw [e]; exact HCQ.out
          · exact HA.out i (by omega))
        skip
        go_wp2_with fail
        go_roundw
        case rel => exact ⟨1, by omega, by go_num, HAN.out, HBN.out⟩
        case measure => first | (simp [intOf]; done) | (simp [intOf]; omega)
    · skip
      have cf := cell_at (i := 1) (v := .func (.func 66) #[] #[.pointer (some ⟨w.heap.size, 0, none⟩)]) hlr rfl
      have HC := Lib.hid (xv2_any w.heap.size x.id x.unit (sv x.name) (sv x.note) (.slice ea x.ext.length ec) wr hll)
      clear hb hacc hll hlt hlf hlr
      go_wp2_with fail
      refine HC.out.mono ?_
      rintro e w2 ⟨rfl, hw⟩
      have HCQ := Lib.hid (show condB tr x 1 = c2B x.id x.unit from rfl)
      generalize c2B x.id x.unit = q at HCQ ⊢
      subst hw
      have HBN := Lib.hid HB.out
      have HBF := Lib.hid HBA.out
      clear cf
      cases q with
      | false =>
        go_wp2_with fail
        go_ret
        rw [HVF.out 1 (by omega) HCQ.out]
        exact ⟨rfl, HBF.out⟩
      | true =>
        have HAN := Lib.hid (show ∀ i, i < 2 → condB tr x i = true from fun i hi => by
          by_cases e : i = 1
          · rw [e]; exact HCQ.out
          · exact HA.out i (by omega))
        skip
        go_wp2_with fail
        go_roundw
        case rel => exact ⟨2, by omega, by go_num, HAN.out, HBN.out⟩
        case measure => first | (simp [intOf]; done) | (simp [intOf]; omega)
    · skip
      have cf := cell_at (i := 2) (v := .func (.func 67) #[] #[.pointer (some ⟨w.heap.size, 0, none⟩)]) hlr rfl
      have HC := Lib.hid (xv3_any w.heap.size (.int .i64 x.id) (.int .i64 x.unit) x.name x.note (.slice ea x.ext.length ec) wr hll)
      clear hb hacc hll hlt hlf hlr
      go_wp2_with fail
      refine HC.out.mono ?_
      rintro e w2 ⟨rfl, hw⟩
      have HCQ := Lib.hid (show condB tr x 2 = c3B x.name.length x.note.length from rfl)
      generalize c3B x.name.length x.note.length = q at HCQ ⊢
      subst hw
      have HBN := Lib.hid HB.out
      have HBF := Lib.hid HBA.out
      clear cf
      cases q with
      | false =>
        go_wp2_with fail
        go_ret
        rw [HVF.out 2 (by omega) HCQ.out]
        exact ⟨rfl, HBF.out⟩
      | true =>
        have HAN := Lib.hid (show ∀ i, i < 3 → condB tr x i = true from fun i hi => by
          by_cases e : i = 2
          · rw [e]; exact HCQ.out
          · exact HA.out i (by omega))
        skip
        go_wp2_with fail
        go_roundw
        case rel => exact ⟨3, by omega, by go_num, HAN.out, HBN.out⟩
        case measure => first | (simp [intOf]; done) | (simp [intOf]; omega)
    · skip
      have cf := cell_at (i := 3) (v := .func (.func 68) #[] #[.pointer (some ⟨w.heap.size, 0, none⟩)]) hlr rfl
      have HC := Lib.hid (xv4_any w.heap.size (.int .i64 x.id) (.int .i64 x.unit) (sv x.name) (sv x.note) ea x.ext.length ec wr hll)
      clear hb hacc hll hlt hlf hlr
      go_wp2_with fail
      refine HC.out.mono ?_
      rintro e w2 ⟨rfl, hw⟩
      have HCQ := Lib.hid (show condB tr x 3 = c4B x.ext.length from rfl)
      generalize c4B x.ext.length = q at HCQ ⊢
      subst hw
      have HBN := Lib.hid HB.out
      have HBF := Lib.hid HBA.out
      clear cf
      cases q with
      | false =>
        go_wp2_with fail
        go_ret
        rw [HVF.out 3 (by omega) HCQ.out]
        exact ⟨rfl, HBF.out⟩
      | true =>
        have HAN := Lib.hid (show ∀ i, i < 4 → condB tr x i = true from fun i hi => by
          by_cases e : i = 3
          · rw [e]; exact HCQ.out
          · exact HA.out i (by omega))
        skip
        go_wp2_with fail
        go_roundw
        case rel => exact ⟨4, by omega, by go_num, HAN.out, HBN.out⟩
        case measure => first | (simp [intOf]; done) | (simp [intOf]; omega)
    · skip
      have cf := cell_at (i := 4) (v := .func (.func 69) #[] #[.pointer (some ⟨w.heap.size, 0, none⟩)]) hlr rfl
      have HC := Lib.hid (lv5_any wr B w.heap.size (.int .i64 x.id) (.int .i64 x.unit) (sv x.name) (sv x.note) ea ec x.ext hll HEXW.out (Nat.le_trans HBW.out HB.out.size) hl)
      clear hb hacc hll hlt hlf hlr
      go_wp2_with fail
      refine HC.out.mono ?_
      rintro e w2 ⟨rfl, hw⟩
      have HCQ := Lib.hid (show condB tr x 4 = (decide (joinP x.ext = x.ext) && disjB x.ext) from rfl)
      generalize (decide (joinP x.ext = x.ext) && disjB x.ext) = q at HCQ ⊢
      have HBN := Lib.hid (HB.out.trans (hw.mono HB.out.size))
      have HBF := Lib.hid (HBA.out.trans (hw.mono HBA.out.size))
      clear hw
      clear cf
      cases q with
      | false =>
        go_wp2_with fail
        go_ret
        rw [HVF.out 4 (by omega) HCQ.out]
        exact ⟨rfl, HBF.out⟩
      | true =>
        have HAN := Lib.hid (show ∀ i, i < 5 → condB tr x i = true from fun i hi => by
          by_cases e : i = 4
          · rw [e]; exact HCQ.out
          · exact HA.out i (by omega))
        skip
        go_wp2_with fail
        go_roundw
        case rel => exact ⟨5, by omega, by go_num, HAN.out, HBN.out⟩
        case measure => first | (simp [intOf]; done) | (simp [intOf]; omega)
    · skip
      have cf := cell_at (i := 5) (v := .func (.func 72) #[] #[.pointer (some ⟨w.heap.size, 0, none⟩), .pointer (some ⟨gf, 0, none⟩), .pointer (some ⟨w.heap.size + 1, 0, none⟩)]) hlr rfl
      have HC := Lib.hid (xv6_any wr B w.heap.size gf (w.heap.size + 1) (.int .i64 x.id) (.int .i64 x.unit) (sv x.name) (sv x.note) ea ec x.ext (ttP tr) tr hll HEXW.out (Nat.le_trans HBW.out HB.out.size) hl (cell_at (i := 0) (v := .int .i64 (ttP tr)) hlf rfl) (cell_at (i := 0) (v := .int .i64 tr) hlt rfl))
      clear hb hacc hll hlt hlf hlr
      go_wp2_with fail
      refine HC.out.mono ?_
      rintro e w2 ⟨rfl, hw⟩
      have HCQ := Lib.hid (show condB tr x 5 = (!(outP (ttP tr) tr x.ext 0).isSome) from rfl)
      generalize (!(outP (ttP tr) tr x.ext 0).isSome) = q at HCQ ⊢
      have HBN := Lib.hid (HB.out.trans (hw.mono HB.out.size))
      have HBF := Lib.hid (HBA.out.trans (hw.mono HBA.out.size))
      clear hw
      clear cf
      cases q with
      | false =>
        go_wp2_with fail
        go_ret
        rw [HVF.out 5 (by omega) HCQ.out]
        exact ⟨rfl, HBF.out⟩
      | true =>
        have HAN := Lib.hid (show ∀ i, i < 6 → condB tr x i = true from fun i hi => by
          by_cases e : i = 5
          · rw [e]; exact HCQ.out
          · exact HA.out i (by omega))
        skip
        go_wp2_with fail
        go_roundw
        case rel => exact ⟨6, by omega, by go_num, HAN.out, HBN.out⟩
        case measure => first | (simp [intOf]; done) | (simp [intOf]; omega)
end

section
open Go.RowKit Go.Sort
attribute [local go_sem ↓] loadTab_down loadLab_down storeLab_down loadKind_down storeKind_down

/-- Whether the labels of a table are valid: the labels left, the kinds so far, the runs so far. -/
def loopB (tr : Int) : List Lab → List (Int × Bool) → List Rn → Bool
  | [], _, all => disjB all
  | x :: l, K, all => if emptyL x = true then loopB tr l K all else if labB tr x = true then (if kindP (x.id, x.unit) ∈ K then false else loopB tr l (K ++ [kindP (x.id, x.unit)]) (all ++ x.ext)) else false
/-- Whether a table is valid. -/
def validB (nm : By) (tr : Int) (l : List Lab) : Bool := if ttP tr = 0 then false else if nameP nm = true then (if (l.length : Int) = max 0 (ttP tr - 1) then loopB tr l [] [] else false) else false

set_option maxRecDepth 100000 in
set_option maxHeartbeats 8000000 in
theorem xvalid_any (w : World) (B : Nat) (a : Option Addr) (cap : Nat) (nm : By) (tr : Int) (l : List Lab) (h : Labs w B a l) (hB : B ≤ w.heap.size) (hl : l.length ≤ 1000) (he : ∀ x ∈ l, x.ext.length ≤ 1000) (hn : nm.length ≤ 100) :
    Calls Tryz.prog 16 #[.agg (tabC nm tr a l.length cap)] w fun e w' => e = .returned (.bool (validB nm tr l)) ∧ (validB nm tr l = true → ValidT tr l) ∧ Below w.heap.size w w' := by
  obtain ⟨V, hV⟩ : ∃ V, V = validB nm tr l := ⟨_, rfl⟩
  rw [← hV]
  have HV := Lib.hid (show V = if ttP tr = 0 then false else if nameP nm = true then (if (l.length : Int) = max 0 (ttP tr - 1) then loopB tr l [] [] else false) else false by rw [hV]; rfl)
  clear hV
  obtain ⟨i0, hi0, hz0, hz1, hz2⟩ := info_parts infoRn
  have HTT := Lib.hid (fun W => (tabletracks_any tr W).mono fun _ w' (hw : _ ∧ W = w') => show _ ∧ Below W.heap.size W w' from ⟨hw.1, hw.2 ▸ Below.refl _ _⟩)
  have HVN := Lib.hid (fun W => (validname_any nm W hn).mono fun _ w' (hw : _ ∧ W = w') => show _ ∧ Below W.heap.size W w' from ⟨hw.1, hw.2 ▸ Below.refl _ _⟩)
  have HSL := Lib.hid (fun W => (slots_any tr W).mono fun _ w' (hw : _ ∧ W = w') => show _ ∧ Below W.heap.size W w' from ⟨hw.1, hw.2 ▸ Below.refl _ _⟩)
  obtain ⟨W0, hW0⟩ : ∃ W0, W0 = w.alloc (.cells (tabC nm tr a l.length cap) 24) := ⟨_, rfl⟩
  have hb0 : Below w.heap.size w W0 := by rw [hW0]; exact box_below w _ _
  have hd0 : W0.heap[w.heap.size]? = some (.cells (tabC nm tr a l.length cap) 24 (0, 0)) := by rw [hW0]; exact heap_alloc_new w _
  have hs0 : W0.heap.size = w.heap.size + 1 := by rw [hW0]; simp
  have HW0 := Lib.hid hW0
  have HB0 := Lib.hid hb0
  have HD0 := Lib.hid hd0
  have HS0 := Lib.hid hs0
  have HL := Lib.hid h
  have t0 := cell_at (i := 0) (v := .string ⟨nm.toArray⟩) hd0 rfl
  have t1 := cell_at (i := 1) (v := .int .i64 tr) hd0 rfl
  have t2 := cell_at (i := 2) (v := .slice a l.length cap) hd0 rfl
  have htr := ttP tr
  have HVT := Lib.hid (fun (all : List Rn) (M : List ((Int × Bool) × Bool)) (h1 : VSt tr l l.length all M) (h2 : ttP tr ≠ 0) (h3 : (M.map Prod.fst).Nodup) (h4 : disjB all = true) => h1.fin h2 h3 h4)
  clear h hb0 hd0 hs0 hW0
  go_enter Tryz.func16, Tryz.ntmps16
  go_wp2_with fail
  rw [← HW0.out]
  have T0 := fun d os => cell_regrown t0 d os
  have T1 := fun d os => cell_regrown t1 d os
  have T2 := fun d os => cell_regrown t2 d os
  generalize hnq : nameP nm = nq at HVN HV
  generalize hsq : max 0 (ttP tr - 1) = sq at HSL HV
  by_cases h0 : ttP tr = 0
  · have e0 : (ttP tr == 0) = true := by simp [h0]
    rw [h0] at HTT
    refine wp_region_quiet_below (by kernel_rfl) (by kernel_rfl) ?_
    repeat (go_big_quiet_step ((first | (go_at_call 30; exact Calls.regrown_of (HTT.out _)) | (go_at_call 39; exact Calls.regrown_of (HVN.out _)) | (go_at_call 40; exact Calls.regrown_of (HSL.out _)))))
    refine wpQuiet_nil ?_
    intro _ hw'
    obtain ⟨⟨dq, osq⟩, hw''⟩ := hw'
    subst hw''
    have HB1 := Lib.hid (HB0.out.trans ((below_regrown W0 dq osq).mono HB0.out.size))
    generalize grow (redrawn W0 dq) osq = W1 at HB1 ⊢
    go_wp2_with fail
    go_ret
    rw [show V = false by rw [HV.out, if_pos h0]]
    exact ⟨rfl, (fun h => by cases h), HB1.out⟩
  · have e0 : (ttP tr == 0) = false := by simp [h0]
    cases nq with
    | false =>
      refine wp_region_quiet_below (by kernel_rfl) (by kernel_rfl) ?_
      repeat (go_big_quiet_step ((first | (go_at_call 30; exact Calls.regrown_of (HTT.out _)) | (go_at_call 39; exact Calls.regrown_of (HVN.out _)) | (go_at_call 40; exact Calls.regrown_of (HSL.out _)))))
      refine wpQuiet_nil ?_
      intro _ hw'
      obtain ⟨⟨dq, osq⟩, hw''⟩ := hw'
      subst hw''
      have HB1 := Lib.hid (HB0.out.trans ((below_regrown W0 dq osq).mono HB0.out.size))
      generalize grow (redrawn W0 dq) osq = W1 at HB1 ⊢
      go_wp2_with fail
      go_ret
      rw [show V = false by rw [HV.out, if_neg h0]; simp]
      exact ⟨rfl, (fun h => by cases h), HB1.out⟩
    | true =>
      by_cases hls : (l.length : Int) = sq
      · have e1 : ((l.length : Int) != sq) = false := by simp [hls]
        refine wp_region_quiet_below (by kernel_rfl) (by kernel_rfl) ?_
        repeat (go_big_quiet_step ((first | (go_at_call 30; exact Calls.regrown_of (HTT.out _)) | (go_at_call 39; exact Calls.regrown_of (HVN.out _)) | (go_at_call 40; exact Calls.regrown_of (HSL.out _)))))
        refine wpQuiet_nil ?_
        intro _ hw'
        obtain ⟨⟨dq, osq⟩, hw''⟩ := hw'
        subst hw''
        have hb01 := below_regrown W0 dq osq
        generalize grow (redrawn W0 dq) osq = W1 at hb01 ⊢
        have hd1 := (hb01.block _ (lt_of_block HD0.out)).trans HD0.out
        have hs1 : w.heap.size + 1 ≤ W1.heap.size := by have := HS0.out; have := hb01.size; omega
        obtain ⟨gm, hgm⟩ : ∃ gm, gm = W1.heap.size := ⟨_, rfl⟩
        obtain ⟨W2, hW2⟩ : ∃ W2, W2 = W1.alloc (.map #[] 0) := ⟨_, rfl⟩
        have hmk : (Instr.makeMap 73 none).run Tryz.prog W1 = .ok (.map (some gm)) W2 := by rw [hgm, hW2]; exact run_makeMap _ _
        have hb12 : Below W1.heap.size W1 W2 := by rw [hW2]; exact box_map W1
        have hm2 : amap W2 gm kKind Value.bool okK [] := by rw [hgm, hW2]; exact amap_new W1 _ _ _
        have hs2 : W2.heap.size = gm + 1 := by rw [hgm, hW2]; simp
        have hd2 := (hb12.block _ (lt_of_block hd1)).trans hd1
        have hb2 := (HB0.out.trans (hb01.mono HB0.out.size)).trans (hb12.mono (HB0.out.trans (hb01.mono HB0.out.size)).size)
        have HB2 := Lib.hid hb2
        have HD2 := Lib.hid hd2
        have HM2 := Lib.hid hm2
        have HS2 := Lib.hid hs2
        have HGM := Lib.hid (show w.heap.size < gm by omega)
        have t2w := cell_at (i := 2) (v := .slice a l.length cap) hd2 rfl
        have HT0 := Lib.hid (show V = loopB tr (l.drop 0) (([] : List ((Int × Bool) × Bool)).map Prod.fst) [] by rw [HV.out, if_neg h0]; simp [hls])
        have HV0 := Lib.hid (show VSt tr l 0 [] [] from ⟨by simp, by simp, by simp [seqP, allT], by simp [refsU], by simp, by simp⟩)
        clear t0 t1 t2 T0 T1 T2 hb01 hd1 hs1 hgm hW2 hb12 hm2 hs2 hd2 hb2 HTT HVN HSL hls e1 hsq
        go_wp2_with fail
        clear t2w hmk
        go_loopw [3, 31] (fun v k wr => ∃ (j : Nat) (all : List Rn) (M : List ((Int × Bool) × Bool)), j ≤ l.length ∧ k = .int .i64 j ∧ V = loopB tr (l.drop j) (M.map Prod.fst) all ∧ VSt tr l j all M ∧ Below w.heap.size w wr ∧ wr.heap[w.heap.size]? = some (.cells (tabC nm tr a l.length cap) 24 (0, 0)) ∧ amap wr gm kKind Value.bool okK M ∧ wr.ownsRow W2.heap.size 68 2 v all.length (refsF all) ∧ W2.heap.size ≤ wr.heap.size) (fun _ k _ => l.length - (intOf k).toNat)
        case atStart => exact ⟨0, [], [], by omega, rfl, HT0.out, HV0.out, HB2.out, HD2.out, HM2.out, own_nil _ _ _ _, Nat.le_refl _⟩
        case round =>
          clear HT0 HV0 HB2 HD2 HM2 HV
          obtain ⟨j, all, M, hj, rfl, hT, hst, hb, hd, hm, ho, hsz⟩ := hrel
          have HB := Lib.hid hb
          have HD := Lib.hid hd
          have HM := Lib.hid hm
          have HO := Lib.hid ho
          have HST0 := Lib.hid hst
          have hal : all.length ≤ 16000 := by have := hst.len; omega
          obtain ⟨oa, oc, rfl⟩ := row_slice ho
          by_cases hlt : j < l.length
          · obtain ⟨b, off, rfl, hbb, hL⟩ := HL.out.get hlt
            have hLw := hL.below (hb.mono hB) hbb
            have HSK := Lib.hid (fun (e : emptyL l[j] = true) => hst.skip hlt e)
            have HST := Lib.hid (fun (e : emptyL l[j] = false) (o : OkL tr l[j]) (ha : alook M (kindP (l[j].id, l[j].unit)) = none) => hst.step hlt e o ha)
            have HVAL := Lib.hid hst.vals
            have hex := he l[j] (List.getElem_mem hlt)
            have hokl := HL.out.ok l[j] (List.getElem_mem hlt)
            rw [List.drop_eq_getElem_cons hlt, loopB] at hT
            clear hL hb hd hm ho hst HST0
            generalize l[j] = x at hT HSK HST hex hokl hLw
            obtain ⟨ea, ec, h4, hRX⟩ := hLw.c4
            have hbw : b < wr.heap.size := block_lt_of_cell hLw.c0
            have dl0 := loadLab_mid hLw.c0 hLw.c1 hLw.c2 hLw.c3 h4
            have HX := Lib.hid (fun W => empty_any x ea ec W)
            obtain ⟨W3, hW3⟩ : ∃ W3, W3 = (wr.alloc (.cells zeroV 43)).setRow wr.heap.size (labV x ea ec) := ⟨_, rfl⟩
            have st1 := storeLab_at (cs := labV x ea ec) (heap_alloc_new wr (.cells zeroV 43)) rfl rfl (by simp [Value.oneCell', sv])
            have hg3 : W3.heap[wr.heap.size]? = some (.cells (labV x ea ec) 43 (0, 0)) := by rw [hW3]; exact setRow_heap _ _ _ _ _ _ (heap_alloc_new _ _)
            have hb3 : Below wr.heap.size wr W3 := by rw [hW3]; exact Below.setRow (box_below _ _ _) (Nat.le_refl _) _
            rw [← hW3] at st1
            have dl1 := loadLab_at hg3 rfl
            have HG3 := Lib.hid hg3
            have HB3 := Lib.hid hb3
            have HI64 := Lib.hid (show I64 x.id from i64_of hokl.id.1 hokl.id.2)
            have HRX := Lib.hid (fun W (hb : Below wr.heap.size wr W) => hRX.below (hb.mono (Nat.le_trans hB HB.out.size)))
            clear hLw h4 hW3 hg3 hb3 hRX hokl
            simp only [labV] at dl0 st1 dl1 HX
            have HT := Lib.hid hT
            clear hT
            generalize hqe : emptyL x = qe at HX HSK HST HT
            clear hqe
            cases qe with
            | true =>
              have HSKN := Lib.hid (HSK.out rfl)
              have HTN := Lib.hid (show V = loopB tr (l.drop (j + 1)) (M.map Prod.fst) all by rw [HT.out]; simp)
              clear HT
              clear HST HRX
              generalize sv x.name = nv at *
              generalize sv x.note = nv2 at *
              generalize x.ext.length = en at *
              generalize x.id = xi at *
              generalize x.unit = xu at *
              go_wp2_with fail
              refine (HX.out _).mono ?_
              rintro e w2 ⟨rfl, hb2⟩
              have hba := HB3.out.trans (hb2.mono HB3.out.size)
              have HBN := Lib.hid (HB.out.trans (hba.mono HB.out.size))
              have HDN := Lib.hid ((hba.block _ (lt_of_block HD.out)).trans HD.out)
              have HMN := Lib.hid (amap_keep HM.out (hba.block gm (amap_lt HM.out)))
              have HON := Lib.hid (own_below HO.out hba)
              have HSN := Lib.hid (Nat.le_trans hsz hba.size)
              clear hb2 hba
              go_wp2_with fail
              go_roundw
              case rel => exact ⟨j + 1, all, M, by omega, by go_num, HTN.out, HSKN.out, HBN.out, HDN.out, HMN.out, HON.out, HSN.out⟩
              case measure => simp [intOf]; omega
            | false =>
              clear HSK
              have HT1 := Lib.hid (show V = if labB tr x = true then (if kindP (x.id, x.unit) ∈ M.map Prod.fst then false else loopB tr (l.drop (j + 1)) (M.map Prod.fst ++ [kindP (x.id, x.unit)]) (all ++ x.ext)) else false by rw [HT.out]; simp)
              clear HT
              go_wp2_with fail
              refine (HX.out _).mono ?_
              rintro e w2 ⟨rfl, hb2⟩
              have hb02 := HB3.out.trans (hb2.mono HB3.out.size)
              have hg2 := (hb2.block wr.heap.size (lt_of_block HG3.out)).trans HG3.out
              have c0 := cell_at (i := 0) (v := .int .i64 x.id) hg2 rfl
              have c1 := cell_at (i := 1) (v := .int .i64 x.unit) hg2 rfl
              obtain ⟨W4, hW4⟩ : ∃ W4, W4 = (w2.alloc (.cells #[.int .i64 0, .bool false] 75)).setRow w2.heap.size #[.int .i64 x.id, .bool (decide (0 < x.unit))] := ⟨_, rfl⟩
              have st4 := storeKind_at (cs := #[.int .i64 x.id, .bool (decide (0 < x.unit))]) (heap_alloc_new w2 (.cells #[.int .i64 0, .bool false] 75)) rfl rfl (by simp [Value.oneCell'])
              have hk4 : W4.heap[w2.heap.size]? = some (.cells #[.int .i64 x.id, .bool (decide (0 < x.unit))] 75 (0, 0)) := by rw [hW4]; exact setRow_heap _ _ _ _ _ _ (heap_alloc_new _ _)
              have hb4 : Below w2.heap.size w2 W4 := by rw [hW4]; exact Below.setRow (box_below _ _ _) (Nat.le_refl _) _
              rw [← hW4] at st4
              have hg4 := (hb4.block wr.heap.size (lt_of_block hg2)).trans hg2
              have dl4 := loadLab_at hg4 rfl
              have hb04 := hb02.trans (hb4.mono hb02.size)
              have hd4 := (hb04.block _ (lt_of_block HD.out)).trans HD.out
              have t1 := cell_at (i := 1) (v := .int .i64 tr) hd4 rfl
              have HVL := Lib.hid (xlabel_any W4 B x ea ec tr (HRX.out W4 hb04) (Nat.le_trans hB (Nat.le_trans HB.out.size hb04.size)) (by omega))
              have HG4 := Lib.hid hg4
              have HK4 := Lib.hid hk4
              have HB04 := Lib.hid hb04
              have HW2 := Lib.hid hb02.size
              simp only [labV] at dl4 HVL
              have HLO := Lib.hid (fun (e : labB tr x = true) => labB_ok e)
              generalize labB tr x = q at HVL HT1 HLO
              clear hb2 hb02 hg2 dl0 dl1 st1 hW4 hk4 hb4 hg4 hb04 hd4
              go_wp2_with fail
              refine HVL.out.mono ?_
              rintro e w5 ⟨rfl, hb5⟩
              have hb05 := HB04.out.trans (hb5.mono HB04.out.size)
              have HB05 := Lib.hid hb05
              have HBW5 := Lib.hid (HB.out.trans (hb05.mono HB.out.size))
              cases q with
              | false =>
                have HVF := Lib.hid (show V = false by rw [HT1.out]; simp)
                clear hb5 hb05 c0 c1 t1
                go_wp2_with fail
                go_ret
                rw [HVF.out]
                exact ⟨rfl, (fun h => by cases h), HBW5.out⟩
              | true =>
                have HOK := Lib.hid (HLO.out (by first | rfl | trivial))
                have HT2 := Lib.hid (show V = if kindP (x.id, x.unit) ∈ M.map Prod.fst then false else loopB tr (l.drop (j + 1)) (M.map Prod.fst ++ [kindP (x.id, x.unit)]) (all ++ x.ext) by rw [HT1.out, if_pos rfl])
                have hk5 := (hb5.block _ (lt_of_block HK4.out)).trans HK4.out
                have hg5 := (hb5.block _ (lt_of_block HG4.out)).trans HG4.out
                have hm5 := amap_keep HM.out (hb05.block gm (amap_lt HM.out))
                have dk5 := loadKind_at hk5 rfl
                have hlk := amap_lookup (T := 73) (E := 4) (P := Tryz.prog) keyKind Tryz.underlying73 hm5 (k := kindP (x.id, x.unit)) HI64.out (zeroB w5)
                have HK5 := Lib.hid hk5
                have HG5 := Lib.hid hg5
                have HM5 := Lib.hid hm5
                clear HT1 HLO hb5 hb05 c0 c1 t1 hk5 hg5 hm5 dl4 st4
                cases hal2 : alook M (kindP (x.id, x.unit)) with
                | some v =>
                  have hv : v = true := HVAL.out _ (alook_mem hal2)
                  have HVF := Lib.hid (show V = false by rw [HT2.out, if_pos (List.mem_map.2 ⟨_, alook_mem hal2, rfl⟩)])
                  subst hv
                  have hlk2 : (Instr.lookup 73 (.map (some gm)) (.agg #[.int .i64 x.id, .bool (decide (0 < x.unit))]) false).run Tryz.prog w5 = .ok (.bool true) w5 := by rw [hal2] at hlk; exact hlk
                  clear hlk hal2
                  go_wp2_with fail
                  go_ret
                  rw [HVF.out]
                  exact ⟨rfl, (fun h => by cases h), HBW5.out⟩
                | none =>
                  have hlk2 : (Instr.lookup 73 (.map (some gm)) (.agg #[.int .i64 x.id, .bool (decide (0 < x.unit))]) false).run Tryz.prog w5 = .ok (.bool false) w5 := by rw [hal2] at hlk; exact hlk
                  have HSTN := Lib.hid (HST.out (by first | rfl | trivial) HOK.out.1 hal2)
                  have HTN := Lib.hid (show V = loopB tr (l.drop (j + 1)) ((aset M (kindP (x.id, x.unit)) true).map Prod.fst) (all ++ x.ext) by rw [HT2.out, if_neg ((alook_none_iff M _).1 hal2), aset_keys, if_neg ((alook_none_iff M _).1 hal2)])
                  have hb5d : Below wr.heap.size wr w5.drew := HB05.out.drew
                  have hrx := HRX.out w5.drew hb5d
                  obtain ⟨p, rfl⟩ : ∃ p, ea = some p := by
                    obtain ⟨b2, o2, e2, _⟩ := hrx.get (i := 0) (by have := HOK.out.2; omega)
                    exact ⟨_, e2⟩
                  have HNW := Lib.hid (rn_news hrx)
                  have HOD := Lib.hid (own_below HO.out hb5d)
                  have HOB := Lib.hid (fun k (hk : (Value.slice oa all.length oc).ownBlock = some k) => And.intro (row_own HO.out hk) (row_own_lt HO.out hk))
                  have c4 := cell_at (i := 4) (v := .slice (some p) x.ext.length ec) HG5.out rfl
                  have hxl : x.ext.length ≤ 1000 := hex
                  have HD5 := Lib.hid ((hb5d.block _ (lt_of_block HD.out)).trans HD.out)
                  have HMD := Lib.hid (show amap w5.drew gm kKind Value.bool okK M from amap_keep HM5.out rfl)
                  have HKD := Lib.hid (show w5.drew.heap[w2.heap.size]? = some (.cells #[.int .i64 x.id, .bool (decide (0 < x.unit))] 75 (0, 0)) from HK5.out)
                  have dkd := loadKind_at HKD.out rfl
                  have HSZ5 := Lib.hid hb5d.size
                  have HBD := Lib.hid (show Below w.heap.size w w5.drew from HBW5.out.drew)
                  have hgmw : gm < wr.heap.size := amap_lt HM.out
                  clear hlk hal2 hb5d hrx HST HVAL
                  go_wp2_with fail
                  first
                  | go_region_law
                      (refine step_append_row W2.heap.size 68 i0 (.agg #[.int .i64 0, .int .i64 0]) 2 16 hi0 hz0 hz1 hz2 rfl (by decide) (by decide) rfl (.tmp 55) (.tmp 57) 41 rfl Tryz.underlying41 _ rfl _ _ HOD.out (some p) x.ext.length ec rfl (refsF x.ext) (refsF_len _) (Or.inl ⟨p, rfl, HNW.out⟩) (one_refs _) (by omega) (Nat.le_trans hsz HSZ5.out) ?_
                       intro v7 w7 ho7 hg7
                       have hM7 := amap_keep HMD.out (hg7.block gm (amap_lt HMD.out) (fun e => by have := (HOB.out gm e.symm).1; have := HS2.out; omega))
                       obtain ⟨w8, hrun8, hm8, hg8, hs8⟩ := amap_update (T := 73) (E := 4) (P := Tryz.prog) keyKind Tryz.underlying73 hM7 (k := kindP (x.id, x.unit)) HI64.out true
                       have hmu : (Instr.mapUpdate 73 (.map (some gm)) (.agg #[.int .i64 x.id, .bool (decide (0 < x.unit))]) (.bool true)).run Tryz.prog w7 = .ok () w8 := hrun8
                       have dk7 := loadKind_at ((hg7.block w2.heap.size (lt_of_block HKD.out) (fun e => by have := (HOB.out _ e.symm).2; have := HW2.out; omega)).trans HKD.out) rfl
                       have HM8 := Lib.hid hm8
                       have HG7 := Lib.hid hg7
                       have HG8 := Lib.hid hg8
                       have HO7 := Lib.hid ho7
                       have HLT7 := Lib.hid (amap_lt hM7)
                       clear hM7 hrun8 hm8 hg7 hg8 hs8 ho7)
                  | fail
                  all_goals
                    have hb7 := HBD.out.grown HG7.out HBD.out.size (fun k hk => by have := (HOB.out k hk).1; have := HS2.out; have := HGM.out; omega)
                    have HB8 := Lib.hid (hb7.grown HG8.out hb7.size (fun k hk => by obtain rfl := Option.some.inj hk; exact Nat.le_of_lt HGM.out))
                    have hd7 := (HG7.out.block _ (lt_of_block HD5.out) (fun e => by have := (HOB.out _ e.symm).1; have := HS2.out; have := HGM.out; omega)).trans HD5.out
                    have HD8 := Lib.hid ((HG8.out.block _ (lt_of_block hd7) (fun e => by have := Option.some.inj e; have := HGM.out; omega)).trans hd7)
                    have HO8 := Lib.hid (own_only (show w7.ownsRow W2.heap.size 68 2 v7 (all ++ x.ext).length (refsF (all ++ x.ext)) by rw [List.length_append, refsF_append]; exact HO7.out) ((Only.refl [gm] w7).grown HG8.out (fun k hk => by obtain rfl := Option.some.inj hk; exact Or.inl (by simp))) (fun k hk => by have := row_own HO7.out hk; have := HS2.out; simp; omega))
                    have HSZ8 := Lib.hid (show W2.heap.size ≤ w8.heap.size from Nat.le_trans (Nat.le_trans hsz HSZ5.out) (Nat.le_trans HG7.out.size HG8.out.size))
                    clear hb7 hd7
                    go_wp2_with fail
                    go_roundw
                    case rel => exact ⟨j + 1, all ++ x.ext, _, by omega, by go_num, HTN.out, HSTN.out, HB8.out, HD8.out, HM8.out, HO8.out, HSZ8.out⟩
                    case measure => simp [intOf]; omega
          · obtain rfl : j = l.length := by omega
            obtain ⟨a', c', he', hR'⟩ := runs_of_row ho hst.good
            obtain ⟨rfl, rfl⟩ : oa = a' ∧ oc = c' := by injection he' with e1 e2 e3; exact ⟨e1, e3⟩
            have HDJ := Lib.hid (disjoint_any wr wr.heap.size oa oc all hR' (Nat.le_refl _) (by omega))
            have HV := Lib.hid (fun (e : disjB all = true) => HVT.out all M hst h0 (amap_nodup hm) e)
            have HVD := Lib.hid (show V = disjB all by rw [hT, List.drop_eq_nil_of_le (by omega)]; rfl)
            have hltI : ¬ (l.length : Int) < (l.length : Int) := by omega
            generalize disjB all = q at HDJ HV HVD
            clear hT hb hd hm ho hst he' hR' HST0
            go_wp2_with fail
            refine HDJ.out.mono ?_
            rintro e w6 ⟨rfl, hb6⟩
            have HB6 := Lib.hid (HB.out.trans (hb6.mono HB.out.size))
            clear hb6
            go_wp2_with fail
            go_ret
            rw [HVD.out]
            exact ⟨rfl, HV.out, HB6.out⟩
      · have e1 : ((l.length : Int) != sq) = true := by simp [hls]
        refine wp_region_quiet_below (by kernel_rfl) (by kernel_rfl) ?_
        repeat (go_big_quiet_step ((first | (go_at_call 30; exact Calls.regrown_of (HTT.out _)) | (go_at_call 39; exact Calls.regrown_of (HVN.out _)) | (go_at_call 40; exact Calls.regrown_of (HSL.out _)))))
        refine wpQuiet_nil ?_
        intro _ hw'
        obtain ⟨⟨dq, osq⟩, hw''⟩ := hw'
        subst hw''
        have HB1 := Lib.hid (HB0.out.trans ((below_regrown W0 dq osq).mono HB0.out.size))
        generalize grow (redrawn W0 dq) osq = W1 at HB1 ⊢
        go_wp2_with fail
        go_ret
        rw [show V = false by rw [HV.out, if_neg h0]; simp [hls]]
        exact ⟨rfl, (fun h => by cases h), HB1.out⟩
end

end Go.Proofs.YtcidbmldbikknaaGreatDoor

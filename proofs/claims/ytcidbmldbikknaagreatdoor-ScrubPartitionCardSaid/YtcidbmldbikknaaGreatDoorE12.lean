/-
  Walks: Owner of the reference's chapter; whether a table is small. Conditions: a table in memory; numbers of 64 bits.
-/
import Derived.Test.YtcidbmldbikknaaGreatDoorE10
namespace Go.Proofs.YtcidbmldbikknaaGreatDoor
open Go.RowKit Go.Sort
attribute [local go_sem ↓] loadRn_down storeRn_down loadLab_down storeLab_down loadTab_down storeRef_down

def ownV : Option (Int × Int × Int) → Int × Int × Int × Bool
  | some x => (x.1, x.2.1, x.2.2, true)
  | none => (0, 0, 0, false)
theorem ownerR_V (o : Option (Int × Int × Int)) : ownerR o = .tuple #[.agg #[.int .i64 (ownV o).1, .int .i64 (ownV o).2.1], .int .i64 (ownV o).2.2.1, .bool (ownV o).2.2.2] := by cases o <;> rfl

def fewLab (x : Lab) : Bool := decide (x.name.length ≤ 100) && decide (x.note.length ≤ 500) && decide (x.ext.length ≤ 30)
set_option maxRecDepth 100000 in
set_option maxHeartbeats 1000000 in
theorem few7_any (x : Lab) (ea : Option Addr) (ec : Nat) (w : World) (hn1 : x.name.length ≤ 9223372036854775807) (hn2 : x.note.length ≤ 9223372036854775807) (hn3 : x.ext.length ≤ 9223372036854775807) :
    Calls Tryz.prog 28 #[.agg #[.int .i64 x.id, .int .i64 x.unit, sv x.name, sv x.note, .slice ea x.ext.length ec]] w fun e w' => e = .returned (.bool (fewLab x)) ∧ Below w.heap.size w w' := by
  obtain ⟨xi, xu, n1, n2, ext⟩ := x
  simp only at hn1 hn2 hn3 ⊢
  have hz := heap_alloc_new w (.cells #[.int .i64 xi, .int .i64 xu, sv n1, sv n2, .slice ea ext.length ec] 43)
  have HB := Lib.hid (box_below w #[.int .i64 xi, .int .i64 xu, sv n1, sv n2, .slice ea ext.length ec] 43)
  have c2 := cell_at (i := 2) (v := .string ⟨n1.toArray⟩) hz rfl
  have c3 := cell_at (i := 3) (v := .string ⟨n2.toArray⟩) hz rfl
  have c4 := cell_at (i := 4) (v := .slice ea ext.length ec) hz rfl
  have hF : fewLab ⟨xi, xu, n1, n2, ext⟩ = (decide (n1.length ≤ 100) && decide (n2.length ≤ 500) && decide (ext.length ≤ 30)) := rfl
  generalize fewLab ⟨xi, xu, n1, n2, ext⟩ = q at hF ⊢
  clear hz
  by_cases h1 : n1.length ≤ 100
  · by_cases h2 : n2.length ≤ 500
    · by_cases h3 : ext.length ≤ 30
      · have HF := Lib.hid (show q = true by rw [hF]; simp [h1, h2, h3])
        have k1 : (n1.length : Int) ≤ 100 := by omega
        have k2 : (n2.length : Int) ≤ 500 := by omega
        have k3 : (ext.length : Int) ≤ 30 := by omega
        clear hF
        go_enter Tryz.func28, Tryz.ntmps28
        go_wp2_with fail
        go_ret
        exact ⟨by rw [HF.out]; rfl, HB.out⟩
      · have HF := Lib.hid (show q = false by rw [hF]; simp [h3])
        have k1 : (n1.length : Int) ≤ 100 := by omega
        have k2 : (n2.length : Int) ≤ 500 := by omega
        have k3 : ¬ (ext.length : Int) ≤ 30 := by omega
        clear hF
        go_enter Tryz.func28, Tryz.ntmps28
        go_wp2_with fail
        go_ret
        exact ⟨by rw [HF.out]; rfl, HB.out⟩
    · have HF := Lib.hid (show q = false by rw [hF]; simp [h2])
      have k1 : (n1.length : Int) ≤ 100 := by omega
      have k2 : ¬ (n2.length : Int) ≤ 500 := by omega
      clear hF
      go_enter Tryz.func28, Tryz.ntmps28
      go_wp2_with fail
      go_ret
      exact ⟨by rw [HF.out]; rfl, HB.out⟩
  · have HF := Lib.hid (show q = false by rw [hF]; simp [h1])
    have k1 : ¬ (n1.length : Int) ≤ 100 := by omega
    clear hF
    go_enter Tryz.func28, Tryz.ntmps28
    go_wp2_with fail
    go_ret
    exact ⟨by rw [HF.out]; rfl, HB.out⟩

end Go.Proofs.YtcidbmldbikknaaGreatDoor

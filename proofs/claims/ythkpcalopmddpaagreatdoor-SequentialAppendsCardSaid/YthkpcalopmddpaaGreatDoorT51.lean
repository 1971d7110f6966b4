/-
  Walks: the place of a record. Condition: a small number.
-/
import Derived.Test.YthkpcalopmddpaaGreatDoorT40
import Derived.Test.YthkpcalopmddpaaGreatDoorT4
import Derived.Laws.Shifts
namespace Go.Proofs.YthkpcalopmddpaaGreatDoor
open Go.RowKit Go.Sort
attribute [local go_sem] strOfNums_size

/-- The place of a record. -/
def plc (n : Nat) : By := (List.range 8).map fun j => b8 (n / 2 ^ (8 * (7 - j)) % 256)
def plA (n i : Nat) : Array Value := ((List.range 8).map fun j => Value.int .u8 ((if 8 - i ≤ j then n / 2 ^ (8 * (7 - j)) % 256 else 0 : Nat) : Int)).toArray
theorem plA_set (n i : Nat) (h : i < 8) : (plA n i).setIfInBounds (7 - i) (.int .u8 ((n / 2 ^ (8 * i) % 256 : Nat) : Int)) = plA n (i + 1) := by
  have h8 : i = 0 ∨ i = 1 ∨ i = 2 ∨ i = 3 ∨ i = 4 ∨ i = 5 ∨ i = 6 ∨ i = 7 := by omega
  rcases h8 with rfl | rfl | rfl | rfl | rfl | rfl | rfl | rfl <;> rfl
theorem plA_zero (n : Nat) : plA n 0 = #[.int .u8 0, .int .u8 0, .int .u8 0, .int .u8 0, .int .u8 0, .int .u8 0, .int .u8 0, .int .u8 0] := rfl
theorem plc_str (n : Nat) : strOfNums ((List.range 8).map fun j => ((n / 2 ^ (8 * (7 - j)) % 256 : Nat) : Int)) = bs (plc n) := by
  show bs (List.map (fun z : Int => UInt8.ofNat z.toNat) (List.map _ _)) = _
  rw [List.map_map]; rfl

set_option maxRecDepth 100000 in
set_option maxHeartbeats 4000000 in
theorem place_any (n : Nat) (w : World) (hn : n ≤ 1000000000) :
    Calls Tryz.prog 64 #[.int .i64 n] w fun e w' => e = .returned (.string ⟨(plc n).toArray⟩) ∧ Below w.heap.size w w' := by
  have HS := Lib.hid (show Below w.heap.size w (w.alloc (.cells (plA n 0) 126)) ∧ (w.alloc (.cells (plA n 0) 126)).heap[w.heap.size]? = some (.cells (plA n 0) 126 (0, 0)) from ⟨box_below w (plA n 0) 126, heap_alloc_new w _⟩)
  rw [plA_zero] at HS
  go_enter Tryz.func64, Tryz.ntmps64
  go_wp2_with fail
  go_loopw [4, 5] (fun _ k wr => ∃ i : Nat, i ≤ 8 ∧ k = .int .i64 i ∧ Below w.heap.size w wr ∧ wr.heap[w.heap.size]? = some (.cells (plA n i) 126 (0, 0))) (fun _ k _ => 8 - (intOf k).toNat)
  case atStart => exact ⟨0, by omega, rfl, HS.out.1, by rw [plA_zero]; exact HS.out.2⟩
  case round =>
    clear HS
    obtain ⟨i, hi, rfl, hb, hg⟩ := hrel
    have HB := Lib.hid hb
    have HG := Lib.hid hg
    by_cases hlt : i < 8
    · have HA := Lib.hid (plA_set n i hlt)
      have hsz : (plA n i).size = 8 := rfl
      have c0 : wr.cell? ⟨w.heap.size, 7 - i, none⟩ = some (plA n i)[7 - i] := by rw [cell_of_row _ _ _ _ _ _ hg]; exact Array.getElem?_eq_getElem (by rw [hsz]; omega)
      generalize (plA n i)[7 - i]'(by rw [hsz]; omega) = y at c0
      have f0 := free_at hg (7 - i)
      have HN := Lib.hid (cell_row_any wr w.heap.size (7 - i) (plA n i) 126 (0, 0) (.int .u8 ((n / 2 ^ (8 * i) % 256 : Nat) : Int)) hg)
      clear hb hg hsz
      have h8 : i = 0 ∨ i = 1 ∨ i = 2 ∨ i = 3 ∨ i = 4 ∨ i = 5 ∨ i = 6 ∨ i = 7 := by omega
      rcases h8 with rfl | rfl | rfl | rfl | rfl | rfl | rfl | rfl
      · simp only [Nat.reduceMul, Nat.reduceSub, Nat.reduceAdd] at c0 f0 HN HA
        have hv : (n : Int) % 256 = ((n / 2 ^ 0 % 256 : Nat) : Int) := by rw [show (2 : Nat) ^ 0 = 1 from rfl]; omega
        have HV := Lib.hid hv
        clear hv
        go_wp2_with fail
        go_roundw
        case rel => exact ⟨1, by omega, by go_num, HB.out.setCell (show w.heap.size ≤ w.heap.size from Nat.le_refl _) _, by rw [← HA.out, HV.out]; exact HN.out⟩
        case measure => simp [intOf]
      · simp only [Nat.reduceMul, Nat.reduceSub, Nat.reduceAdd] at c0 f0 HN HA
        have hv : (n : Int) / 256 % 256 = ((n / 2 ^ 8 % 256 : Nat) : Int) := by rw [show (2 : Nat) ^ 8 = 256 from rfl]; omega
        have HV := Lib.hid hv
        clear hv
        go_wp2_with fail
        go_roundw
        case rel => exact ⟨2, by omega, by go_num, HB.out.setCell (show w.heap.size ≤ w.heap.size from Nat.le_refl _) _, by rw [← HA.out, HV.out]; exact HN.out⟩
        case measure => simp [intOf]
      · simp only [Nat.reduceMul, Nat.reduceSub, Nat.reduceAdd] at c0 f0 HN HA
        have hv : (n : Int) / 65536 % 256 = ((n / 2 ^ 16 % 256 : Nat) : Int) := by rw [show (2 : Nat) ^ 16 = 65536 from rfl]; omega
        have HV := Lib.hid hv
        clear hv
        go_wp2_with fail
        go_roundw
        case rel => exact ⟨3, by omega, by go_num, HB.out.setCell (show w.heap.size ≤ w.heap.size from Nat.le_refl _) _, by rw [← HA.out, HV.out]; exact HN.out⟩
        case measure => simp [intOf]
      · simp only [Nat.reduceMul, Nat.reduceSub, Nat.reduceAdd] at c0 f0 HN HA
        have hv : (n : Int) / 16777216 = ((n / 2 ^ 24 % 256 : Nat) : Int) := by rw [show (2 : Nat) ^ 24 = 16777216 from rfl]; omega
        have HV := Lib.hid hv
        clear hv
        go_wp2_with fail
        go_roundw
        case rel => exact ⟨4, by omega, by go_num, HB.out.setCell (show w.heap.size ≤ w.heap.size from Nat.le_refl _) _, by rw [← HA.out, HV.out]; exact HN.out⟩
        case measure => simp [intOf]
      · simp only [Nat.reduceMul, Nat.reduceSub, Nat.reduceAdd] at c0 f0 HN HA
        have hv : (n : Int) / 4294967296 = ((n / 2 ^ 32 % 256 : Nat) : Int) := by rw [show (2 : Nat) ^ 32 = 4294967296 from rfl]; omega
        have HV := Lib.hid hv
        clear hv
        go_wp2_with fail
        go_roundw
        case rel => exact ⟨5, by omega, by go_num, HB.out.setCell (show w.heap.size ≤ w.heap.size from Nat.le_refl _) _, by rw [← HA.out, HV.out]; exact HN.out⟩
        case measure => simp [intOf]
      · simp only [Nat.reduceMul, Nat.reduceSub, Nat.reduceAdd] at c0 f0 HN HA
        have hv : (n : Int) / 1099511627776 = ((n / 2 ^ 40 % 256 : Nat) : Int) := by rw [show (2 : Nat) ^ 40 = 1099511627776 from rfl]; omega
        have HV := Lib.hid hv
        clear hv
        go_wp2_with fail
        go_roundw
        case rel => exact ⟨6, by omega, by go_num, HB.out.setCell (show w.heap.size ≤ w.heap.size from Nat.le_refl _) _, by rw [← HA.out, HV.out]; exact HN.out⟩
        case measure => simp [intOf]
      · simp only [Nat.reduceMul, Nat.reduceSub, Nat.reduceAdd] at c0 f0 HN HA
        have hv : (n : Int) / 281474976710656 = ((n / 2 ^ 48 % 256 : Nat) : Int) := by rw [show (2 : Nat) ^ 48 = 281474976710656 from rfl]; omega
        have HV := Lib.hid hv
        clear hv
        go_wp2_with fail
        go_roundw
        case rel => exact ⟨7, by omega, by go_num, HB.out.setCell (show w.heap.size ≤ w.heap.size from Nat.le_refl _) _, by rw [← HA.out, HV.out]; exact HN.out⟩
        case measure => simp [intOf]
      · simp only [Nat.reduceMul, Nat.reduceSub, Nat.reduceAdd] at c0 f0 HN HA
        have hv : (n : Int) / 72057594037927936 = ((n / 2 ^ 56 % 256 : Nat) : Int) := by rw [show (2 : Nat) ^ 56 = 72057594037927936 from rfl]; omega
        have HV := Lib.hid hv
        clear hv
        go_wp2_with fail
        go_roundw
        case rel => exact ⟨8, by omega, by go_num, HB.out.setCell (show w.heap.size ≤ w.heap.size from Nat.le_refl _) _, by rw [← HA.out, HV.out]; exact HN.out⟩
        case measure => simp [intOf]
    · obtain rfl : i = 8 := by omega
      have hcv : (convert 69 9 (.slice (some ⟨w.heap.size, 0, none⟩) 8 8)).run Tryz.prog wr = .ok (.string ⟨(plc n).toArray⟩) wr := by
        have := conv_at wr w.heap.size 8 ((List.range 8).map fun j => ((n / 2 ^ (8 * (7 - j)) % 256 : Nat) : Int)) 126 (0, 0) hg (by simp)
        rw [plc_str] at this; exact this
      have hlt3 := lt_of_block hg
      clear hb hg
      go_wp2_with fail
      go_ret
      exact ⟨rfl, HB.out⟩

end Go.Proofs.YthkpcalopmddpaaGreatDoor

/-
  Walks: numbers as decimal texts, by the program and the reference. Conditions: numbers of 64 bits; the library's table lies in memory.
-/
import Derived.Test.YtcidbmldbikknaaGreatDoorE14
import Derived.Test.YtcidbmldbikknaaGreatDoorShelf
import Derived.Lib.AppendIntMem
import Derived.Lib.ItoaLen
namespace Go.Proofs.YtcidbmldbikknaaGreatDoor
open Go.RowKit Go.Sort
attribute [local go_sem] ByteArray.mk_append_mk strOfNums_size

/-- The library's table of powers lies in memory, below a block. -/
def TabB (B : Nat) (w : World) : Prop := Lib.TabBelow Tryz.prog B w "internal/strconv.uint64pow10" .u64 Lib.pow10Tab
theorem TabB.on {B : Nat} {w w' : World} (h : TabB B w) (hb : Below B w w') : TabB B w' := Lib.TabBelow.on h hb
/-- A number as a decimal text. -/
abbrev dcm (n : Int) : By := Lib.itoa n
theorem itoa_any (n : Int) (h : okI n) (w : World) (B : Nat) (ht : TabB B w) : Calls Tryz.prog 56 #[.int .i64 n] w fun e w' => e = .returned (.string ⟨(dcm n).toArray⟩) ∧ Below w.heap.size w w' :=
  (Tryz.strconv_Itoa n h.1 h.2 w (Lib.TabBelow.here ht)).mono fun e w' ⟨he, k, os, hw⟩ => ⟨he, by subst hw; exact (below_drewN (Below.refl _ _) k).trans (by
    refine ⟨rfl, rfl, rfl, by simp [grow], fun q hq => ?_⟩
    have hq' : q < (w.drewN k).heap.size := hq
    exact Array.getElem?_append_left hq')⟩

theorem digits_len (n : Nat) (h : n < 18446744073709551616) : (Lib.decDigits n).length ≤ 22 := by
  by_cases h10 : n < 10
  · rw [Lib.decDigits_one h10]; simp
  · rw [Lib.decDigits, dif_neg h10, List.length_append]
    have := Lib.itoa_length_le ((n / 10 : Nat) : Int) (by omega) (by omega)
    rw [Lib.itoa_nonneg] at this
    simp; omega

theorem itoa_len (n : Int) (h : okI n) : (dcm n).length ≤ 21 := Lib.itoa_length_le n h.1 h.2

end Go.Proofs.YtcidbmldbikknaaGreatDoor

/-
  Walks: a record behind a block, as the program adds it. Conditions: block sizes of 9 to 1024, texts of at most 2000 bytes; the table of codes is laid.
-/
import Derived.Test.YthkpcalopmddpaaDoorS7
import Derived.Test.YthkpcalopmddpaaDoorS9
namespace Go.Proofs.YthkpcalopmddpaaDoor
open Go.RowKit Go.Sort
attribute [local go_sem] ByteArray.mk_append_mk strOfNums_size ext_drop ext_take

set_option maxRecDepth 100000 in
set_option maxHeartbeats 1000000 in
theorem part_done (w : World) (b1 b2 b3 : Nat) (r : By) (bg : Bool) (room : Int) (h : PartSt w b1 b2 b3 r bg true) :
    Calls Tryd.prog 113 #[.int .i64 room, .pointer (some ⟨b3, 0, none⟩), .pointer (some ⟨b1, 0, none⟩), .pointer (some ⟨b2, 0, none⟩)] w fun e w' =>
      e = .returned (.tuple #[.agg #[.bool false, .bool false, .string ⟨([] : By).toArray⟩], .bool false]) ∧ Below w.heap.size w w' := by
  have c3 := cell_at (i := 0) h.don rfl
  have l3 := lt_of_block h.don
  go_enter Tryd.func113, Tryd.ntmps113
  go_wp2_with fail
  refine ret_seg (p := 5) (u := 6) (rb := w.heap.size) rfl rfl rfl rfl (heap_alloc_new _ _) ⟨rfl, (Below.refl _ _).alloc (Nat.le_refl _) _⟩

/-- The closure's own measure: nothing once it is done. -/
def partMu (w : World) (b1 b3 : Nat) : Nat := match w.cell? ⟨b3, 0, none⟩ with
  | some (.bool true) => 0
  | _ => match w.cell? ⟨b1, 0, none⟩ with
    | some (.string s) => s.size + 1
    | _ => 0
theorem partMu_of {w : World} {b1 b2 b3 : Nat} {r : By} {bg dn : Bool} (h : PartSt w b1 b2 b3 r bg dn) : partMu w b1 b3 = if dn then 0 else r.length + 1 := by
  unfold partMu
  rw [cell_at (i := 0) h.don rfl, cell_at (i := 0) h.rcd rfl]
  cases dn
  · simp; rfl
  · rfl
theorem PartSt.below {w w' : World} {b1 b2 b3 : Nat} {r : By} {bg dn : Bool} (h : PartSt w b1 b2 b3 r bg dn) (hb : Below w.heap.size w w') : PartSt w' b1 b2 b3 r bg dn :=
  ⟨heap_below hb (lt_of_block h.rcd) h.rcd, heap_below hb (lt_of_block h.beg) h.beg, heap_below hb (lt_of_block h.don) h.don, h.h12, h.h13, h.h23⟩
theorem PartSt.grown {w w' : World} {b1 b2 b3 : Nat} {r : By} {bg dn : Bool} {row : Option Nat} (h : PartSt w b1 b2 b3 r bg dn) (hg : w.grownBy w' row) (h1 : row ≠ some b1) (h2 : row ≠ some b2) (h3 : row ≠ some b3) : PartSt w' b1 b2 b3 r bg dn :=
  ⟨(hg.block _ (lt_of_block h.rcd) (fun e => h1 e.symm)).trans h.rcd, (hg.block _ (lt_of_block h.beg) (fun e => h2 e.symm)).trans h.beg, (hg.block _ (lt_of_block h.don) (fun e => h3 e.symm)).trans h.don, h.h12, h.h13, h.h23⟩

/-- What the loop still has to give. -/
def restOf (block : Nat) (dn : Bool) (f : Nat) (bg : Bool) (r : By) : List By := if dn then [] else restA block f bg r
theorem restOf_step (block : Nat) (hb : 9 ≤ block) (f : Nat) (bg : Bool) (r : By) (hf : r.length < f) :
    ∃ g, (r.drop (min (block - 8) r.length)).length < g ∧ restOf block false f bg r = whole (segF bg (decide (min (block - 8) r.length < r.length)) (r.take (block - 8))) :: restOf block (decide (min (block - 8) r.length = r.length)) g true (r.drop (min (block - 8) r.length)) := by
  obtain ⟨g, rfl⟩ : ∃ g, f = g + 1 := ⟨f - 1, by omega⟩
  by_cases he : min (block - 8) r.length = r.length
  · refine ⟨r.length + 1, by rw [List.length_drop]; omega, ?_⟩
    unfold restOf
    rw [he]
    simp only [decide_true, if_true, Bool.false_eq_true, if_false]
    unfold restA
    rw [if_pos he, he]
  · have hm : min (block - 8) r.length = block - 8 := by omega
    refine ⟨g, by rw [List.length_drop, hm]; omega, ?_⟩
    unfold restOf
    rw [decide_eq_false he]
    simp only [Bool.false_eq_true, if_false]
    conv => lhs; unfold restA
    rw [if_neg he, hm]

theorem info9 : (Tryd.prog.info? 9).map (fun i => (i.zero, i.size, i.bytes)) = some (some (.string ByteArray.empty), 1, 16) := by kernel_rfl
end Go.Proofs.YthkpcalopmddpaaDoor

/-
  Walks: the program's form of a segment. Condition: texts of at most 65000 bytes; the table of codes is laid.
-/
import Derived.Test.YthkpcalopmddpaaDoorS5
namespace Go.Proofs.YthkpcalopmddpaaDoor
open Go.RowKit
attribute [local go_sem] ByteArray.mk_append_mk strOfNums_size ext_drop ext_take

/-- The program's table of codes lies as it was laid. -/
structure Codes (w : World) : Prop where
  pos : 0 < w.heap.size
  c0 : w.cell? ⟨0, 0, none⟩ = some (.bool false)
  c1 : w.cell? ⟨0, 1, none⟩ = some (.bool false)
  c2 : w.cell? ⟨0, 2, none⟩ = some (.bool false)
  c3 : w.cell? ⟨0, 3, none⟩ = some (.bool true)
  c4 : w.cell? ⟨0, 4, none⟩ = some (.bool true)
  c5 : w.cell? ⟨0, 5, none⟩ = some (.bool false)
  c6 : w.cell? ⟨0, 6, none⟩ = some (.bool true)
  c7 : w.cell? ⟨0, 7, none⟩ = some (.bool true)
theorem Codes.below {w w' : World} (h : Codes w) {B : Nat} (hb : Below B w w') (hB : 0 < B) : Codes w' :=
  ⟨Nat.lt_of_lt_of_le h.pos hb.size, (hb.cell (p := ⟨0, 0, none⟩) hB).trans h.c0, (hb.cell (p := ⟨0, 1, none⟩) hB).trans h.c1, (hb.cell (p := ⟨0, 2, none⟩) hB).trans h.c2, (hb.cell (p := ⟨0, 3, none⟩) hB).trans h.c3,
   (hb.cell (p := ⟨0, 4, none⟩) hB).trans h.c4, (hb.cell (p := ⟨0, 5, none⟩) hB).trans h.c5, (hb.cell (p := ⟨0, 6, none⟩) hB).trans h.c6, (hb.cell (p := ⟨0, 7, none⟩) hB).trans h.c7⟩
def idxBA (b a : Bool) : Nat := if b then (if a then 3 else 2) else (if a then 1 else 0)

theorem eq_pair (x y u v : Bool) (w : World) : (binOp .eql 154 (.agg #[.bool x, .bool y]) (.agg #[.bool u, .bool v])).run Tryd.prog w = .ok (.bool (x == u && y == v)) w := by
  cases x <;> cases y <;> cases u <;> cases v <;> kernel_rfl

set_option maxRecDepth 100000 in
set_option maxHeartbeats 2000000 in
theorem index_any (b a : Bool) (w : World) (hc : Codes w) :
    Calls Tryd.prog 114 #[.slice (some ⟨0, 0, none⟩) 4 4, .agg #[.bool b, .bool a]] w fun e w' => e = .returned (.int .i64 (idxBA b a : Nat)) ∧ Below w.heap.size w w' := by
  have heq := eq_pair
  have hb0 : Below w.heap.size w (w.alloc (.cells #[.bool b, .bool a] 154)) := (Below.refl _ _).alloc (Nat.le_refl _) _
  have hg0 := heap_alloc_new w (.cells #[.bool b, .bool a] 154)
  have hc0 := hc.below hb0 hc.pos
  go_enter Tryd.func114, Tryd.ntmps114
  go_wp2
  generalize w.alloc (.cells #[.bool b, .bool a] 154) = w1 at hb0 hg0 hc0 ⊢
  go_loopw [5, 8] (fun _ k wr => ∃ j : Nat, j ≤ idxBA b a ∧ k = .int .i64 j ∧ Below w1.heap.size w1 wr) (fun _ k _ => 4 - (intOf k).toNat)
  case atStart => exact ⟨0, by omega, rfl, Below.refl _ _⟩
  case round =>
    obtain ⟨j, hj, rfl, hb⟩ := hrel
    have hw1 : w.heap.size < w1.heap.size := lt_of_block hg0
    obtain ⟨_, c0, c1, c2, c3, c4, c5, c6, c7⟩ := hc0.below hb hc0.pos
    have hg := heap_below hb hw1 hg0
    have x0 := cell_at (i := 0) hg rfl
    have x1 := cell_at (i := 1) hg rfl
    have HB := Lib.hid (hb0.trans (hb.mono hb0.size))
    have HB1 := Lib.hid hb
    clear hb0 hg0 hc0 hb hg hc hw1
    have hj3 : j = 0 ∨ j = 1 ∨ j = 2 ∨ j = 3 := by
      have : idxBA b a ≤ 3 := by cases b <;> cases a <;> decide
      omega
    cases b
    all_goals
      cases a
      all_goals
        simp only [idxBA, if_true, if_false, Bool.false_eq_true] at hj ⊢
        rcases hj3 with rfl | rfl | rfl | rfl
        all_goals
          first
            | (exfalso; omega)
            | (go_wp2_with fail
               go_quiet (fail)
               go_wp2
               first
                 | (go_ret; exact ⟨ret_int (by simp [idxBA]), below_drewN HB.out _⟩)
                 | (go_roundw
                    case rel => first | exact ⟨1, by decide, rfl, below_drewN HB1.out _⟩ | exact ⟨2, by decide, rfl, below_drewN HB1.out _⟩ | exact ⟨3, by decide, rfl, below_drewN HB1.out _⟩
                    case measure => simp [intOf]))

end Go.Proofs.YthkpcalopmddpaaDoor

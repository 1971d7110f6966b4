/-
  Walks: the program's form of a segment. Condition: texts of at most 60000 bytes; the table of codes is laid.
-/
import Derived.Test.YthkpcalopmddpaaDoorS6
import Derived.Test.YthkpcalopmddpaaDoorS7
namespace Go.Proofs.YthkpcalopmddpaaDoor
open Go.RowKit Go.Sort
attribute [local go_sem] ByteArray.mk_append_mk strOfNums_size ext_drop ext_take

theorem str_seg2 (b a : Bool) (n : Nat) (c : Int) (hc : UInt8.ofNat c.toNat = code b a) : strOfNums [((n : Int) + 4) / 256, ((n : Int) + 4) % 256, c, 0] = bs [b8 ((n + 4) / 256), b8 ((n + 4) % 256), code b a, 0] := by
  rw [Int.add_comm]; exact str_seg b a n c hc

set_option maxRecDepth 100000 in
set_option maxHeartbeats 2000000 in
theorem sform_any (b a : Bool) (d : By) (w : World) (hc : Codes w) (h : d.length ≤ 60000) :
    Calls Tryd.prog 109 #[.agg #[.bool b, .bool a, .string ⟨d.toArray⟩]] w fun e w' => e = .returned (.string (bs (segF b a d))) ∧ Below w.heap.size w w' := by
  have hb0 : Below w.heap.size w (w.alloc (.cells #[.bool b, .bool a, .string ⟨d.toArray⟩] 151)) := (Below.refl _ _).alloc (Nat.le_refl _) _
  have hg0 := heap_alloc_new w (.cells #[.bool b, .bool a, .string ⟨d.toArray⟩] 151)
  have hc0 := hc.below hb0 hc.pos
  have HD := Lib.hid (show bs [b8 ((d.length + 4) / 256), b8 ((d.length + 4) % 256), code b a, 0] ++ bs d = bs (segF b a d) from ByteArray.mk_append_mk _ _)
  go_enter Tryd.func109, Tryd.ntmps109
  go_wp2_with fail
  generalize w.alloc (.cells #[.bool b, .bool a, .string ⟨d.toArray⟩] 151) = w1 at hb0 hg0 hc0 ⊢
  have x0 := cell_at (i := 0) hg0 rfl
  have x1 := cell_at (i := 1) hg0 rfl
  have y0 : ∀ dq osq, (grow (redrawn w1 dq) osq).cell? ⟨w.heap.size, 0, none⟩ = some (.bool b) := fun dq osq => ((below_regrown w1 dq osq).cell (p := ⟨w.heap.size, 0, none⟩) (lt_of_block hg0)).trans x0
  have y1 : ∀ dq osq, (grow (redrawn w1 dq) osq).cell? ⟨w.heap.size, 1, none⟩ = some (.bool a) := fun dq osq => ((below_regrown w1 dq osq).cell (p := ⟨w.heap.size, 1, none⟩) (lt_of_block hg0)).trans x1
  have HB := Lib.hid hb0
  have HC := Lib.hid hc0
  have HG := Lib.hid hg0
  clear hb0 hc0 hg0
  refine wp_region_quiet_below (by kernel_rfl) (by kernel_rfl) ?_
  cases b
  all_goals
    cases a
    all_goals
      repeat (go_big_quiet_step ((go_at_call 114; exact Calls.regrown_of (index_any _ _ _ (HC.out.below (below_regrown _ _ _) HC.out.pos)))))
      refine wpQuiet_nil ?_
      intro _ hw'
      obtain ⟨⟨dq, osq⟩, hw''⟩ := hw'
      subst hw''
      have hb2 := below_regrown w1 dq osq
      have hg2 := heap_below hb2 (lt_of_block HG.out) HG.out
      clear x0 x1 y0 y1
      generalize grow (redrawn w1 dq) osq = w2 at hb2 hg2 ⊢
      have x2 := cell_at (i := 2) hg2 rfl
      have hlt2 : w.heap.size < w2.heap.size := lt_of_block hg2
      have hcv := fun a b c d => conv4 a b c d w2
      have HB2 := Lib.hid (HB.out.trans (hb2.mono HB.out.size))
      clear hb2 hg2
      simp only [idxBA, if_true, if_false, Bool.false_eq_true]
      go_wp2
      go_ret
      refine ⟨ret_str ?_, HB2.out.alloc HB2.out.size _⟩
      rw [← HD.out]
      first | rw [str_seg2 _ _ d.length _ code_ff] | rw [str_seg2 _ _ d.length _ code_ft] | rw [str_seg2 _ _ d.length _ code_tf] | rw [str_seg2 _ _ d.length _ code_tt]

end Go.Proofs.YthkpcalopmddpaaDoor

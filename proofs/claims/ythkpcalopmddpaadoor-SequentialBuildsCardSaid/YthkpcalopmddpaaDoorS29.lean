/-
  Walks: whether a description is valid, by the program: all cases. No condition.
-/
import Derived.Test.YthkpcalopmddpaaDoorS28
namespace Go.Proofs.YthkpcalopmddpaaDoor
open Go.RowKit Go.Sort

/-- The format's row, whatever the format. -/
theorem formatX_any (org fmt len blk : Int) (w : World) :
    Calls Tryd.prog 39 #[.agg (dsv org fmt len blk)] w fun e w' =>
      ∃ f0 f1 f2 k f4, (e = .returned (.agg #[f0, f1, f2, .int .i64 k, f4]) ∧ (#[f0, f1, f2, .int .i64 k, f4] : Array Value).all (·.oneCell') = true) ∧ Below w.heap.size w w' := by
  by_cases h0 : fmt = 0
  · subst h0
    exact (format0_any org len blk w).mono fun e w' ⟨g, he, hb⟩ => ⟨_, _, _, _, _, ⟨he, fm_one _ _ _ _ _ rfl rfl rfl rfl⟩, hb⟩
  · by_cases h1 : fmt = 1
    · subst h1
      exact (format1_any org len blk w).mono fun e w' ⟨g, he, hb⟩ => ⟨_, _, _, _, _, ⟨he, fm_one _ _ _ _ _ rfl rfl rfl rfl⟩, hb⟩
    · exact (format2_any org fmt len blk w h0 h1).mono fun e w' ⟨he, hb⟩ => ⟨_, _, _, _, _, ⟨he, fm_one _ _ _ _ _ rfl rfl rfl rfl⟩, hb⟩

set_option maxRecDepth 100000 in
set_option maxHeartbeats 1000000 in
theorem validN_any (org fmt len blk : Int) (hne : (org == 0) = false ∨ ((org == 0) = true ∧ ¬ 0 ≤ fmt) ∨ ((org == 0) = true ∧ 0 ≤ fmt ∧ ¬ fmt ≤ 2)) (w : World) : Calls Tryd.prog 15 #[.agg (dsv org fmt len blk)] w fun e w' => e = .returned (.bool false) ∧ Below w.heap.size w w' := by
  have HF := Lib.hid (fun W => formatX_any org fmt len blk W)
  have HZ := Lib.hid (heap_alloc_new w (.cells (dsv org fmt len blk) 28))
  rcases hne with e0 | ⟨e0, h1⟩ | ⟨e0, h1, h3⟩
  all_goals
   go_enter Tryd.func15, Tryd.ntmps15
   go_wp2_with (refine wpList_load_row rfl _ _ rfl w.heap.size rfl 28 (dsv org fmt len blk) (0, 0) _ HZ.out Tryd.underlying28 rfl (by rw [info_ds]; rfl) ?_)
   refine (HF.out _).mono ?_
   rintro e w2 ⟨f0, f1, f2, k, f4, ⟨rfl, hone⟩, hb2⟩
   have H1 := Lib.hid hone
   clear hone
   go_wp2_with (
     refine wpList_store_rowTo rfl _ _ _ rfl rfl w2.heap.size #[f0, f1, f2, .int .i64 k, f4] rfl rfl 76 fmz (heap_alloc_new _ _) (by rw [info_fmt]; rfl) rfl H1.out ?_
     obtain ⟨W, hW, r1, r2, hb3⟩ := fmt_rows (fs := #[f0, f1, f2, .int .i64 k, f4]) hb2
     rw [← hW]
     have c1 := cell_at (i := 1) (v := .int .i64 org) r1 rfl
     have c2 := cell_at (i := 2) (v := .int .i64 fmt) r1 rfl
     have HB3 := Lib.hid hb3
     clear hb2 hb3 r1 r2 hW HZ HF H1)
   go_ret
   exact ⟨rfl, HB3.out⟩

theorem valid_any (org fmt len blk : Int) (w : World) : Calls Tryd.prog 15 #[.agg (dsv org fmt len blk)] w fun e w' => e = .returned (.bool (dsV org fmt len blk)) ∧ Below w.heap.size w w' := by
  have h0 : ∀ b : Bool, (b = true → 0 ≤ blk) → (b && decide (0 ≤ blk)) = b := fun b hb => by
    cases b
    · rfl
    · simpa using hb rfl
  by_cases ho : org = 0
  · subst ho
    by_cases h : fmt < 0 ∨ 2 < fmt
    · have e : dsV 0 fmt len blk = false := by unfold dsV; rw [if_pos rfl, if_neg (by omega), if_neg (by omega), if_neg (by omega)]
      rw [e]; exact validN_any 0 fmt len blk (by rcases h with h | h; exact Or.inr (Or.inl ⟨rfl, by omega⟩); exact Or.inr (Or.inr ⟨rfl, by omega, by omega⟩)) w
    · have h3 : fmt = 0 ∨ fmt = 1 ∨ fmt = 2 := by omega
      rcases h3 with rfl | rfl | rfl
      · have e : dsV 0 0 len blk = (fixV len blk && decide (0 ≤ blk)) := (h0 _ (fun h => by have h : fixV len blk = true := h; unfold fixV at h; simp only [Bool.and_eq_true, decide_eq_true_eq] at h; omega)).symm
        rw [e]; exact valid0_any len blk w
      · have e : dsV 0 1 len blk = (varV len blk && decide (0 ≤ blk)) := (h0 _ (fun h => by have h : varV len blk = true := h; unfold varV at h; simp only [Bool.and_eq_true, decide_eq_true_eq] at h; omega)).symm
        rw [e]; exact valid1_any len blk w
      · exact valid2_any len blk w
  · have e : dsV org fmt len blk = false := by simp [dsV, ho]
    rw [e]; exact validN_any org fmt len blk (Or.inl (by simp [ho])) w

end Go.Proofs.YthkpcalopmddpaaDoor

/-
  Walks: the comparison of two references. No condition.
-/
import Derived.Test.YtcidbmldbikknaaGreatDoorE14
import Derived.Deep.RegionWith
namespace Go.Proofs.YtcidbmldbikknaaGreatDoor
open Go.RowKit Go.Sort

def cmpI (x y : Int) : Int := if x < y then -1 else if y < x then 1 else 0
def orI (x y : Int) : Int := if x = 0 then y else x
def refC (x y : Rn) : Int := orI (cmpI x.1 y.1) (cmpI x.2 y.2)

set_option maxRecDepth 100000 in
set_option maxHeartbeats 400000 in
theorem isnan_any (x : Int) (w : World) : Calls Tryz.prog 78 #[.int .i64 x] w fun e w' => e = .returned (.bool false) ∧ w' = w := by
  have h1 : (x != x) = false := by simp
  go_enter Tryz.func78, Tryz.ntmps78
  go_wp2_with fail
  go_ret
  exact ⟨by simp, rfl⟩

set_option maxRecDepth 100000 in
set_option maxHeartbeats 1000000 in
theorem compare_any (x y : Int) (w : World) : Calls Tryz.prog 47 #[.int .i64 x, .int .i64 y] w fun e w' => e = .returned (.int .i64 (cmpI x y)) ∧ w' = w := by
  have HX := Lib.hid (fun W => isnan_any x W)
  have HY := Lib.hid (fun W => isnan_any y W)
  by_cases h1 : x < y
  · have HF := Lib.hid (show cmpI x y = -1 by unfold cmpI; rw [if_pos h1])
    generalize cmpI x y = q at HF ⊢
    go_enter Tryz.func47, Tryz.ntmps47
    go_wp2_with fail
    refine (HX.out _).mono ?_
    rintro e _ ⟨rfl, rfl⟩
    go_wp2_with fail
    refine (HY.out _).mono ?_
    rintro e _ ⟨rfl, rfl⟩
    go_wp2_with fail
    go_ret
    exact ⟨by rw [HF.out]; rfl, rfl⟩
  · by_cases h2 : y < x
    · have HF := Lib.hid (show cmpI x y = 1 by unfold cmpI; rw [if_neg h1, if_pos h2])
      generalize cmpI x y = q at HF ⊢
      go_enter Tryz.func47, Tryz.ntmps47
      go_wp2_with fail
      refine (HX.out _).mono ?_
      rintro e _ ⟨rfl, rfl⟩
      go_wp2_with fail
      refine (HY.out _).mono ?_
      rintro e _ ⟨rfl, rfl⟩
      go_wp2_with fail
      go_ret
      exact ⟨by rw [HF.out]; rfl, rfl⟩
    · have HF := Lib.hid (show cmpI x y = 0 by unfold cmpI; rw [if_neg h1, if_neg h2])
      generalize cmpI x y = q at HF ⊢
      go_enter Tryz.func47, Tryz.ntmps47
      go_wp2_with fail
      refine (HX.out _).mono ?_
      rintro e _ ⟨rfl, rfl⟩
      go_wp2_with fail
      refine (HY.out _).mono ?_
      rintro e _ ⟨rfl, rfl⟩
      go_wp2_with fail
      go_ret
      exact ⟨by rw [HF.out]; rfl, rfl⟩

set_option maxRecDepth 100000 in
set_option maxHeartbeats 1000000 in
theorem or_two (x y : Int) (b c : Nat) (w : World) (h0 : w.cell? ⟨b, 0, none⟩ = some (.int .i64 x)) (h1 : w.cell? ⟨b, 1, none⟩ = some (.int .i64 y)) : Calls Tryz.prog 46 #[.slice (some ⟨b, 0, none⟩) 2 c] w fun e w' => e = .returned (.int .i64 (orI x y)) ∧ w' = w := by
  have HF := Lib.hid (show orI x y = if x = 0 then y else x from rfl)
  generalize orI x y = q at HF ⊢
  go_enter Tryz.func46, Tryz.ntmps46
  go_wp2_with fail
  go_loop [8] (fun k => k = .int .i64 0 ∨ (x = 0 ∧ k = .int .i64 1) ∨ (x = 0 ∧ y = 0 ∧ k = .int .i64 2)) (fun k => 2 - (intOf k).toNat)
  case atStart => exact Or.inl rfl
  case round =>
    rcases hrel with rfl | ⟨hx, rfl⟩ | ⟨hx, hy, rfl⟩
    · by_cases hx : x = 0
      · have e1 : (x != 0) = false := by simp [hx]
        have HX := Lib.hid hx
        clear hx
        go_wp2_with fail
        go_round
        case rel => exact Or.inr (Or.inl ⟨HX.out, by go_num⟩)
        case measure => simp [intOf]
      · have e1 : (x != 0) = true := by simp [hx]
        have HQ := Lib.hid (show q = x by rw [HF.out, if_neg hx])
        clear hx
        go_wp2_with fail
        go_ret
        exact ⟨by rw [HQ.out]; rfl, rfl⟩
    · have HX := Lib.hid hx
      clear hx
      by_cases hy : y = 0
      · have e1 : (y != 0) = false := by simp [hy]
        have HY := Lib.hid hy
        clear hy
        go_wp2_with fail
        go_round
        case rel => exact Or.inr (Or.inr ⟨HX.out, HY.out, by go_num⟩)
        case measure => simp [intOf]
      · have e1 : (y != 0) = true := by simp [hy]
        have HQ := Lib.hid (show q = y by rw [HF.out, if_pos HX.out])
        clear hy
        go_wp2_with fail
        go_ret
        exact ⟨by rw [HQ.out]; rfl, rfl⟩
    · have HQ := Lib.hid (show q = 0 by rw [HF.out, if_pos hx, hy])
      clear hx hy
      go_wp2_with fail
      go_ret
      exact ⟨by rw [HQ.out]; rfl, rfl⟩

/-- Nothing old has turned, and the tape was asked on: blocks laid behind some draws. -/
theorem grown_of {W w' : World} (h : Below W.heap.size W w') (hd : W.drawn ≤ w'.drawn) : ∃ q os', w' = grow (W.drewN q) os' := by
  obtain ⟨⟨d, os⟩, he⟩ := regrown_of_below h
  have h1 : w'.drawn = d := by rw [he]; rfl
  refine ⟨d - W.drawn, os, ?_⟩
  rw [he]
  show grow (redrawn W d) os = grow (W.drewN (d - W.drawn)) os
  have h2 : redrawn W d = W.drewN (d - W.drawn) := by
    show ({ W with drawn := d } : World) = { W with drawn := W.drawn + (d - W.drawn) }
    rw [show W.drawn + (d - W.drawn) = d by omega]
  rw [h2]
/-- What the closure's region holds. -/
abbrev ClS (w : World) (x1 x2 y1 y2 : Int) (W : World) : Prop := W.cell? ⟨w.heap.size, 0, none⟩ = some (.int .i64 x1) ∧ W.cell? ⟨w.heap.size, 1, none⟩ = some (.int .i64 x2) ∧ W.cell? ⟨w.heap.size + 1, 0, none⟩ = some (.int .i64 y1) ∧ W.cell? ⟨w.heap.size + 1, 1, none⟩ = some (.int .i64 y2) ∧ Below w.heap.size w W ∧ w.drawn ≤ W.drawn
theorem ClS.alloc {w : World} {x1 x2 y1 y2 : Int} {W : World} (h : ClS w x1 x2 y1 y2 W) (o : Obj) : ClS w x1 x2 y1 y2 (W.alloc o) := by
  obtain ⟨h1, h2, h3, h4, h5, h6⟩ := h
  have hb : Below W.heap.size W (W.alloc o) := (Below.refl _ _).alloc (Nat.le_refl _) o
  exact ⟨(hb.cell (block_lt_of_cell h1)).trans h1, (hb.cell (block_lt_of_cell h2)).trans h2, (hb.cell (block_lt_of_cell h3)).trans h3, (hb.cell (block_lt_of_cell h4)).trans h4, h5.alloc h5.size o, h6⟩
theorem ClS.drew {w : World} {x1 x2 y1 y2 : Int} {W : World} (h : ClS w x1 x2 y1 y2 W) : ClS w x1 x2 y1 y2 W.drew := by
  obtain ⟨h1, h2, h3, h4, h5, h6⟩ := h
  exact ⟨h1, h2, h3, h4, below_drewN h5 1, Nat.le_succ_of_le h6⟩

set_option maxRecDepth 100000 in
set_option maxHeartbeats 4000000 in
theorem refs1_any (x y : Rn) (w : World) : Calls Tryz.prog 45 #[.agg #[.int .i64 x.1, .int .i64 x.2], .agg #[.int .i64 y.1, .int .i64 y.2]] w fun e w' => e = .returned (.int .i64 (refC x y)) ∧ ∃ q os', w' = grow (w.drewN q) os' := by
  obtain ⟨x1, x2⟩ := x
  obtain ⟨y1, y2⟩ := y
  have hz0 := (halloc _ (.cells #[.int .i64 y1, .int .i64 y2] 40) (by simp)).trans (heap_alloc_new w (.cells #[.int .i64 x1, .int .i64 x2] 40))
  have hz1 := two_new w #[.int .i64 x1, .int .i64 x2] #[.int .i64 y1, .int .i64 y2] 40 40
  have HB := Lib.hid (two_below w #[.int .i64 x1, .int .i64 x2] #[.int .i64 y1, .int .i64 y2] 40 40)
  have a0 := cell_at (i := 0) (v := .int .i64 x1) hz0 rfl
  have a1 := cell_at (i := 1) (v := .int .i64 x2) hz0 rfl
  have b0 := cell_at (i := 0) (v := .int .i64 y1) hz1 rfl
  have b1 := cell_at (i := 1) (v := .int .i64 y2) hz1 rfl
  have HD := Lib.hid (show ((w.alloc (.cells #[.int .i64 x1, .int .i64 x2] 40)).alloc (.cells #[.int .i64 y1, .int .i64 y2] 40)).drawn = w.drawn from rfl)
  have HF := Lib.hid (show refC (x1, x2) (y1, y2) = orI (cmpI x1 y1) (cmpI x2 y2) from rfl)
  generalize refC (x1, x2) (y1, y2) = q at HF ⊢
  clear hz0 hz1
  have HC := Lib.hid (fun (x y : Int) W => compare_any x y W)
  have HO := Lib.hid (fun (x y : Int) b c W h0 h1 => or_two x y b c W h0 h1)
  have HS := Lib.hid (show ClS w x1 x2 y1 y2 ((w.alloc (.cells #[.int .i64 x1, .int .i64 x2] 40)).alloc (.cells #[.int .i64 y1, .int .i64 y2] 40)) from ⟨a0, a1, b0, b1, HB.out, Nat.le_refl _⟩)
  clear a0 a1 b0 b1 HD HB
  go_enter Tryz.func45, Tryz.ntmps45
  obtain ⟨W0, hW0⟩ : ∃ W0, W0 = (w.alloc (.cells #[.int .i64 x1, .int .i64 x2] 40)).alloc (.cells #[.int .i64 y1, .int .i64 y2] 40) := ⟨_, rfl⟩
  go_wp2_with fail
  rw [← hW0] at HS ⊢
  clear hW0
  have hs1 := HS.out
  have hs2 := HS.out.drew
  obtain ⟨d1, d2, d3, d4, d5, d6⟩ := hs2
  go_region_held3 (fun w' => w'.cell? ⟨w.heap.size, 0, none⟩ = some (.int .i64 x1) ∧ w'.cell? ⟨w.heap.size, 1, none⟩ = some (.int .i64 x2) ∧ w'.cell? ⟨w.heap.size + 1, 0, none⟩ = some (.int .i64 y1) ∧ w'.cell? ⟨w.heap.size + 1, 1, none⟩ = some (.int .i64 y2) ∧ Below w.heap.size w w' ∧ w.drawn ≤ w'.drawn) (first | assumption | exact ⟨d1, d2, d3, d4, d5, d6⟩ | exact ClS.alloc (by assumption) _)
    ((first
      | (go_at_call 47; refine (HC.out _ _ _).mono ?_; rintro e _ ⟨rfl, rfl⟩)
      | (go_at_call 46; refine (HO.out (cmpI x1 y1) (cmpI x2 y2) _ _ _ ?_ ?_).mono ?_; exact cell_at (heap_alloc_new _ _) rfl; exact cell_at (heap_alloc_new _ _) rfl; rintro e _ ⟨rfl, rfl⟩)))
  all_goals
    go_wp2_with fail
    go_ret
    exact ⟨by rw [HF.out]; rfl, grown_of (by assumption : ClS w x1 x2 y1 y2 _).2.2.2.2.1 (by assumption : ClS w x1 x2 y1 y2 _).2.2.2.2.2⟩

end Go.Proofs.YtcidbmldbikknaaGreatDoor

/-
  Walks: whether a label is zero, by the program and the reference. Condition: lengths below 2^63.
-/
import Derived.Test.YtcidbmldbikknaaGreatDoorE9
namespace Go.Proofs.YtcidbmldbikknaaGreatDoor
open Go.RowKit Go.Sort
attribute [local go_sem ↓] loadRn_down storeRn_down loadLab_down storeLab_down loadTab_down

/-- Whether a label is zero. -/
def emptyL (x : Lab) : Bool := decide (x.id = 0) && (decide (x.unit = 0) && (decide (x.name = []) && (decide (x.note = []) && decide (x.ext = []))))
abbrev labC (xi xu : Int) (nm nt : By) (ea : Option Addr) (n ec : Nat) : Array Value := #[.int .i64 xi, .int .i64 xu, sv nm, sv nt, .slice ea n ec]
abbrev labV (x : Lab) (ea : Option Addr) (ec : Nat) : Array Value := #[.int .i64 x.id, .int .i64 x.unit, sv x.name, sv x.note, .slice ea x.ext.length ec]
abbrev zeroV : Array Value := #[.int .i64 0, .int .i64 0, .string ⟨#[]⟩, .string ⟨#[]⟩, .slice none 0 0]
def emptyC (xi xu : Int) (nm nt : By) (n : Nat) : Bool := decide (xi = 0) && (decide (xu = 0) && (decide (nm = []) && (decide (nt = []) && decide (n = 0))))
theorem emptyL_c (x : Lab) : emptyC x.id x.unit x.name x.note x.ext.length = emptyL x := by
  unfold emptyC emptyL
  rw [show decide (x.ext.length = 0) = decide (x.ext = []) by simp [List.length_eq_zero_iff]]

set_option maxRecDepth 100000 in
set_option maxHeartbeats 1000000 in
theorem eq_nil (a : Option Addr) (n c : Nat) (w : World) : Calls Tryz.prog 70 #[.slice a n c, .slice none 0 0] w fun e w' => e = .returned (.bool (decide (n = 0))) ∧ w' = w := by
  by_cases h : n = 0
  · subst h
    go_enter Tryz.func70, Tryz.ntmps70
    go_wp2_with fail
    go_loop [13] (fun k => k = .int .i64 0) (fun _ => 0)
    case atStart => rfl
    case round =>
      subst hrel
      go_wp2_with fail
      go_ret
      exact ⟨rfl, rfl⟩
  · have h1 : ((n : Int) != 0) = true := by simp [h]
    have h2 : ¬ (n : Int) = 0 := by omega
    have HF := Lib.hid (show decide (n = 0) = false by simp [h])
    generalize decide (n = 0) = q at HF ⊢
    go_enter Tryz.func70, Tryz.ntmps70
    go_wp2_with fail
    go_ret
    exact ⟨by rw [HF.out]; rfl, rfl⟩

set_option maxRecDepth 100000 in
set_option maxHeartbeats 1000000 in
theorem equal_c (xi xu : Int) (nm nt : By) (ea : Option Addr) (n ec : Nat) (w : World) : Calls Tryz.prog 64 #[.agg (labC xi xu nm nt ea n ec), .agg zeroV] w fun e w' => e = .returned (.bool (emptyC xi xu nm nt n)) ∧ Below w.heap.size w w' := by
  have hz0 := (halloc _ (.cells zeroV 43) (by simp)).trans (heap_alloc_new w (.cells (labC xi xu nm nt ea n ec) 43))
  have hz1 := two_new w (labC xi xu nm nt ea n ec) zeroV 43 43
  have HB := Lib.hid (two_below w (labC xi xu nm nt ea n ec) zeroV 43 43)
  have x0 := cell_at (i := 0) (v := .int .i64 xi) hz0 rfl
  have x1 := cell_at (i := 1) (v := .int .i64 xu) hz0 rfl
  have x2 := cell_at (i := 2) (v := .string ⟨nm.toArray⟩) hz0 rfl
  have x3 := cell_at (i := 3) (v := .string ⟨nt.toArray⟩) hz0 rfl
  have x4 := cell_at (i := 4) (v := .slice ea n ec) hz0 rfl
  have z0 := cell_at (i := 0) (v := .int .i64 0) hz1 rfl
  have z1 := cell_at (i := 1) (v := .int .i64 0) hz1 rfl
  have z2 := cell_at (i := 2) (v := .string ⟨#[]⟩) hz1 rfl
  have z3 := cell_at (i := 3) (v := .string ⟨#[]⟩) hz1 rfl
  have z4 := cell_at (i := 4) (v := .slice none 0 0) hz1 rfl
  have HX := Lib.hid (fun W => eq_nil ea n ec W)
  have HE := Lib.hid (show emptyC xi xu nm nt n = (decide (xi = 0) && (decide (xu = 0) && (decide (nm = []) && (decide (nt = []) && decide (n = 0))))) from rfl)
  generalize emptyC xi xu nm nt n = E at HE ⊢
  clear hz0 hz1
  by_cases h0 : xi = 0
  · subst h0
    by_cases h1 : xu = 0
    · subst h1
      by_cases h2 : nm = []
      · subst h2
        by_cases h3 : nt = []
        · subst h3
          have HF := Lib.hid (show E = decide (n = 0) by rw [HE.out]; simp)
          generalize decide (n = 0) = d at HF HX
          clear HE
          go_enter Tryz.func64, Tryz.ntmps64
          go_wp2_with fail
          refine (HX.out _).mono ?_
          rintro e _ ⟨rfl, rfl⟩
          go_wp2_with fail
          go_ret
          exact ⟨by rw [HF.out]; rfl, HB.out⟩
        · have e1 : (nt == []) = false := by simp [h3]
          have HF := Lib.hid (show E = false by rw [HE.out]; simp [h3])
          clear HE
          go_enter Tryz.func64, Tryz.ntmps64
          go_wp2_with fail
          go_ret
          exact ⟨by rw [HF.out]; rfl, HB.out⟩
      · have e1 : (nm == []) = false := by simp [h2]
        have HF := Lib.hid (show E = false by rw [HE.out]; simp [h2])
        clear HE
        go_enter Tryz.func64, Tryz.ntmps64
        go_wp2_with fail
        go_ret
        exact ⟨by rw [HF.out]; rfl, HB.out⟩
    · have e1 : (xu == 0) = false := by simp [h1]
      have HF := Lib.hid (show E = false by rw [HE.out]; simp [h1])
      clear HE
      go_enter Tryz.func64, Tryz.ntmps64
      go_wp2_with fail
      go_ret
      exact ⟨by rw [HF.out]; rfl, HB.out⟩
  · have e1 : (xi == 0) = false := by simp [h0]
    have HF := Lib.hid (show E = false by rw [HE.out]; simp [h0])
    clear HE
    go_enter Tryz.func64, Tryz.ntmps64
    go_wp2_with fail
    go_ret
    exact ⟨by rw [HF.out]; rfl, HB.out⟩

set_option maxRecDepth 100000 in
set_option maxHeartbeats 1000000 in
theorem empty_c (xi xu : Int) (nm nt : By) (ea : Option Addr) (n ec : Nat) (w : World) : Calls Tryz.prog 41 #[.agg (labC xi xu nm nt ea n ec)] w fun e w' => e = .returned (.bool (emptyC xi xu nm nt n)) ∧ Below w.heap.size w w' := by
  have hz0 := heap_alloc_new w (.cells (labC xi xu nm nt ea n ec) 43)
  have HB := Lib.hid (box_below w (labC xi xu nm nt ea n ec) 43)
  have dl := loadLab_at hz0 rfl
  have HX := Lib.hid (fun W => equal_c xi xu nm nt ea n ec W)
  generalize emptyC xi xu nm nt n = E at HX ⊢
  clear hz0
  go_enter Tryz.func41, Tryz.ntmps41
  go_wp2_with fail
  refine (HX.out _).mono ?_
  rintro e w1 ⟨rfl, hb1⟩
  have HB1 := Lib.hid (HB.out.trans (hb1.mono HB.out.size))
  go_wp2_with fail
  go_ret
  exact ⟨rfl, HB1.out⟩
theorem empty_any (x : Lab) (ea : Option Addr) (ec : Nat) (w : World) : Calls Tryz.prog 41 #[.agg (labV x ea ec)] w fun e w' => e = .returned (.bool (emptyL x)) ∧ Below w.heap.size w w' :=
  emptyL_c x ▸ empty_c x.id x.unit x.name x.note ea x.ext.length ec w

set_option maxRecDepth 100000 in
set_option maxHeartbeats 1000000 in
theorem req_nil (a : Option Addr) (n c : Nat) (w : World) : Calls Tryz.prog 112 #[.slice a n c, .slice none 0 0] w fun e w' => e = .returned (.bool (decide (n = 0))) ∧ w' = w := by
  by_cases h : n = 0
  · subst h
    go_enter Tryz.func112, Tryz.ntmps112
    go_wp2_with fail
    go_loop [5] (fun k => k = .int .i64 0) (fun _ => 0)
    case atStart => rfl
    case round =>
      subst hrel
      go_wp2_with fail
      go_ret
      exact ⟨rfl, rfl⟩
  · have h1 : ((n : Int) != 0) = true := by simp [h]
    have h2 : ¬ (n : Int) = 0 := by omega
    have HF := Lib.hid (show decide (n = 0) = false by simp [h])
    generalize decide (n = 0) = q at HF ⊢
    go_enter Tryz.func112, Tryz.ntmps112
    go_wp2_with fail
    go_ret
    exact ⟨by rw [HF.out]; rfl, rfl⟩

set_option maxRecDepth 100000 in
set_option maxHeartbeats 1000000 in
theorem requal_c (xi xu : Int) (nm nt : By) (ea : Option Addr) (n ec : Nat) (w : World) : Calls Tryz.prog 89 #[.agg (labC xi xu nm nt ea n ec), .agg zeroV] w fun e w' => e = .returned (.bool (emptyC xi xu nm nt n)) ∧ Below w.heap.size w w' := by
  have hz0 := (halloc _ (.cells zeroV 43) (by simp)).trans (heap_alloc_new w (.cells (labC xi xu nm nt ea n ec) 43))
  have hz1 := two_new w (labC xi xu nm nt ea n ec) zeroV 43 43
  have HB := Lib.hid (two_below w (labC xi xu nm nt ea n ec) zeroV 43 43)
  have x0 := cell_at (i := 0) (v := .int .i64 xi) hz0 rfl
  have x1 := cell_at (i := 1) (v := .int .i64 xu) hz0 rfl
  have x2 := cell_at (i := 2) (v := .string ⟨nm.toArray⟩) hz0 rfl
  have x3 := cell_at (i := 3) (v := .string ⟨nt.toArray⟩) hz0 rfl
  have x4 := cell_at (i := 4) (v := .slice ea n ec) hz0 rfl
  have z0 := cell_at (i := 0) (v := .int .i64 0) hz1 rfl
  have z1 := cell_at (i := 1) (v := .int .i64 0) hz1 rfl
  have z2 := cell_at (i := 2) (v := .string ⟨#[]⟩) hz1 rfl
  have z3 := cell_at (i := 3) (v := .string ⟨#[]⟩) hz1 rfl
  have z4 := cell_at (i := 4) (v := .slice none 0 0) hz1 rfl
  have HX := Lib.hid (fun W => req_nil ea n ec W)
  have HE := Lib.hid (show emptyC xi xu nm nt n = (decide (xi = 0) && (decide (xu = 0) && (decide (nm = []) && (decide (nt = []) && decide (n = 0))))) from rfl)
  generalize emptyC xi xu nm nt n = E at HE ⊢
  clear hz0 hz1
  by_cases h0 : xi = 0
  · subst h0
    by_cases h1 : xu = 0
    · subst h1
      by_cases h2 : nm = []
      · subst h2
        by_cases h3 : nt = []
        · subst h3
          have HF := Lib.hid (show E = decide (n = 0) by rw [HE.out]; simp)
          generalize decide (n = 0) = d at HF HX
          clear HE
          go_enter Tryz.func89, Tryz.ntmps89
          go_wp2_with fail
          refine (HX.out _).mono ?_
          rintro e _ ⟨rfl, rfl⟩
          go_wp2_with fail
          go_ret
          exact ⟨by rw [HF.out]; rfl, HB.out⟩
        · have e1 : (nt == []) = false := by simp [h3]
          have HF := Lib.hid (show E = false by rw [HE.out]; simp [h3])
          clear HE
          go_enter Tryz.func89, Tryz.ntmps89
          go_wp2_with fail
          go_ret
          exact ⟨by rw [HF.out]; rfl, HB.out⟩
      · have e1 : (nm == []) = false := by simp [h2]
        have HF := Lib.hid (show E = false by rw [HE.out]; simp [h2])
        clear HE
        go_enter Tryz.func89, Tryz.ntmps89
        go_wp2_with fail
        go_ret
        exact ⟨by rw [HF.out]; rfl, HB.out⟩
    · have e1 : (xu == 0) = false := by simp [h1]
      have HF := Lib.hid (show E = false by rw [HE.out]; simp [h1])
      clear HE
      go_enter Tryz.func89, Tryz.ntmps89
      go_wp2_with fail
      go_ret
      exact ⟨by rw [HF.out]; rfl, HB.out⟩
  · have e1 : (xi == 0) = false := by simp [h0]
    have HF := Lib.hid (show E = false by rw [HE.out]; simp [h0])
    clear HE
    go_enter Tryz.func89, Tryz.ntmps89
    go_wp2_with fail
    go_ret
    exact ⟨by rw [HF.out]; rfl, HB.out⟩

set_option maxRecDepth 100000 in
set_option maxHeartbeats 1000000 in
theorem rempty_c (xi xu : Int) (nm nt : By) (ea : Option Addr) (n ec : Nat) (w : World) : Calls Tryz.prog 60 #[.agg (labC xi xu nm nt ea n ec)] w fun e w' => e = .returned (.bool (emptyC xi xu nm nt n)) ∧ Below w.heap.size w w' := by
  have hz0 := heap_alloc_new w (.cells (labC xi xu nm nt ea n ec) 43)
  have HB := Lib.hid (box_below w (labC xi xu nm nt ea n ec) 43)
  have dl := loadLab_at hz0 rfl
  have HX := Lib.hid (fun W => requal_c xi xu nm nt ea n ec W)
  generalize emptyC xi xu nm nt n = E at HX ⊢
  clear hz0
  go_enter Tryz.func60, Tryz.ntmps60
  go_wp2_with fail
  refine (HX.out _).mono ?_
  rintro e w1 ⟨rfl, hb1⟩
  have HB1 := Lib.hid (HB.out.trans (hb1.mono HB.out.size))
  go_wp2_with fail
  go_ret
  exact ⟨rfl, HB1.out⟩
theorem rempty_any (x : Lab) (ea : Option Addr) (ec : Nat) (w : World) : Calls Tryz.prog 60 #[.agg (labV x ea ec)] w fun e w' => e = .returned (.bool (emptyL x)) ∧ Below w.heap.size w w' :=
  emptyL_c x ▸ rempty_c x.id x.unit x.name x.note ea x.ext.length ec w

end Go.Proofs.YtcidbmldbikknaaGreatDoor

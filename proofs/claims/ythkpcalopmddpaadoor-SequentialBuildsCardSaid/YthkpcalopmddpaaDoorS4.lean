/-
  Walks: what is valid; how many records fit; what is allowed. No condition.
-/
import Derived.Test.YthkpcalopmddpaaDoorBase
namespace Go.Proofs.YthkpcalopmddpaaDoor
open Go.RowKit

theorem w64 (x : Int) (h0 : 0 ≤ x) (h1 : x ≤ 1000000) : wrap64 x = x := by unfold wrap64; omega
def fixV (l b : Int) : Bool := decide (1 ≤ l) && decide (l ≤ 1000) && decide (l ≤ b) && decide (b ≤ 1024)
def varV (l b : Int) : Bool := decide (1 ≤ l) && decide (l ≤ 1000) && decide (l + 8 ≤ b) && decide (b ≤ 1024)
def spnV (l b : Int) : Bool := decide (1 ≤ l) && decide (l ≤ 1000) && decide (9 ≤ b) && decide (b ≤ 1024)
def numV (n : Int) : Bool := decide (0 ≤ n) && decide (n ≤ 1099511627776)

set_option maxRecDepth 100000 in
set_option maxHeartbeats 400000 in
theorem fix_valid (l b : Int) (w : World) : Calls Tryd.prog 63 #[.int .i64 l, .int .i64 b] w fun e w' => e = .returned (.bool (fixV l b)) ∧ w = w' := by
  by_cases h1 : 1 ≤ l
  · by_cases h2 : l ≤ 1000
    · by_cases h3 : l ≤ b
      · by_cases h4 : b ≤ 1024
        · have H := Lib.hid (show true = fixV l b by simp [fixV, *])
          go_enter Tryd.func63, Tryd.ntmps63
          go_wp2
          go_ret
          exact ⟨ret_bool H.out, rfl⟩
        · have H := Lib.hid (show false = fixV l b by simp [fixV, *])
          go_enter Tryd.func63, Tryd.ntmps63
          go_wp2
          go_ret
          exact ⟨ret_bool H.out, rfl⟩
      · have H := Lib.hid (show false = fixV l b by simp [fixV, *])
        go_enter Tryd.func63, Tryd.ntmps63
        go_wp2
        go_ret
        exact ⟨ret_bool H.out, rfl⟩
    · have H := Lib.hid (show false = fixV l b by simp [fixV, *])
      go_enter Tryd.func63, Tryd.ntmps63
      go_wp2
      go_ret
      exact ⟨ret_bool H.out, rfl⟩
  · have H := Lib.hid (show false = fixV l b by simp [fixV, *])
    go_enter Tryd.func63, Tryd.ntmps63
    go_wp2
    go_ret
    exact ⟨ret_bool H.out, rfl⟩

set_option maxRecDepth 100000 in
set_option maxHeartbeats 400000 in
theorem rfix_valid (l b : Int) (w : World) : Calls Tryd.prog 40 #[.int .i64 l, .int .i64 b] w fun e w' => e = .returned (.bool (fixV l b)) ∧ w = w' := by
  by_cases h1 : 1 ≤ l
  · by_cases h2 : l ≤ 1000
    · by_cases h3 : l ≤ b
      · by_cases h4 : b ≤ 1024
        · have H := Lib.hid (show true = fixV l b by simp [fixV, *])
          go_enter Tryd.func40, Tryd.ntmps40
          go_wp2
          go_ret
          exact ⟨ret_bool H.out, rfl⟩
        · have H := Lib.hid (show false = fixV l b by simp [fixV, *])
          go_enter Tryd.func40, Tryd.ntmps40
          go_wp2
          go_ret
          exact ⟨ret_bool H.out, rfl⟩
      · have H := Lib.hid (show false = fixV l b by simp [fixV, *])
        go_enter Tryd.func40, Tryd.ntmps40
        go_wp2
        go_ret
        exact ⟨ret_bool H.out, rfl⟩
    · have H := Lib.hid (show false = fixV l b by simp [fixV, *])
      go_enter Tryd.func40, Tryd.ntmps40
      go_wp2
      go_ret
      exact ⟨ret_bool H.out, rfl⟩
  · have H := Lib.hid (show false = fixV l b by simp [fixV, *])
    go_enter Tryd.func40, Tryd.ntmps40
    go_wp2
    go_ret
    exact ⟨ret_bool H.out, rfl⟩

set_option maxRecDepth 100000 in
set_option maxHeartbeats 400000 in
theorem var_valid (l b : Int) (w : World) : Calls Tryd.prog 68 #[.int .i64 l, .int .i64 b] w fun e w' => e = .returned (.bool (varV l b)) ∧ w = w' := by
  by_cases h1 : 1 ≤ l
  · by_cases h2 : l ≤ 1000
    · by_cases h3 : l + 8 ≤ b
      · by_cases h4 : b ≤ 1024
        · have H := Lib.hid (show true = varV l b by simp [varV, *])
          go_enter Tryd.func68, Tryd.ntmps68
          go_wp2
          go_ret
          exact ⟨ret_bool H.out, rfl⟩
        · have H := Lib.hid (show false = varV l b by simp [varV, *])
          go_enter Tryd.func68, Tryd.ntmps68
          go_wp2
          go_ret
          exact ⟨ret_bool H.out, rfl⟩
      · have H := Lib.hid (show false = varV l b by simp [varV, *])
        go_enter Tryd.func68, Tryd.ntmps68
        go_wp2
        go_ret
        exact ⟨ret_bool H.out, rfl⟩
    · have H := Lib.hid (show false = varV l b by simp [varV, *])
      go_enter Tryd.func68, Tryd.ntmps68
      go_wp2
      go_ret
      exact ⟨ret_bool H.out, rfl⟩
  · have H := Lib.hid (show false = varV l b by simp [varV, *])
    go_enter Tryd.func68, Tryd.ntmps68
    go_wp2
    go_ret
    exact ⟨ret_bool H.out, rfl⟩

set_option maxRecDepth 100000 in
set_option maxHeartbeats 400000 in
theorem rvar_valid (l b : Int) (w : World) : Calls Tryd.prog 41 #[.int .i64 l, .int .i64 b] w fun e w' => e = .returned (.bool (varV l b)) ∧ w = w' := by
  by_cases h1 : 1 ≤ l
  · by_cases h2 : l ≤ 1000
    · by_cases h3 : l + 8 ≤ b
      · by_cases h4 : b ≤ 1024
        · have H := Lib.hid (show true = varV l b by simp [varV, *])
          go_enter Tryd.func41, Tryd.ntmps41
          go_wp2
          go_ret
          exact ⟨ret_bool H.out, rfl⟩
        · have H := Lib.hid (show false = varV l b by simp [varV, *])
          go_enter Tryd.func41, Tryd.ntmps41
          go_wp2
          go_ret
          exact ⟨ret_bool H.out, rfl⟩
      · have H := Lib.hid (show false = varV l b by simp [varV, *])
        go_enter Tryd.func41, Tryd.ntmps41
        go_wp2
        go_ret
        exact ⟨ret_bool H.out, rfl⟩
    · have H := Lib.hid (show false = varV l b by simp [varV, *])
      go_enter Tryd.func41, Tryd.ntmps41
      go_wp2
      go_ret
      exact ⟨ret_bool H.out, rfl⟩
  · have H := Lib.hid (show false = varV l b by simp [varV, *])
    go_enter Tryd.func41, Tryd.ntmps41
    go_wp2
    go_ret
    exact ⟨ret_bool H.out, rfl⟩

set_option maxRecDepth 100000 in
set_option maxHeartbeats 400000 in
theorem spn_valid (l b : Int) (w : World) : Calls Tryd.prog 72 #[.int .i64 l, .int .i64 b] w fun e w' => e = .returned (.bool (spnV l b)) ∧ w = w' := by
  by_cases h1 : 1 ≤ l
  · by_cases h2 : l ≤ 1000
    · by_cases h3 : 9 ≤ b
      · by_cases h4 : b ≤ 1024
        · have H := Lib.hid (show true = spnV l b by simp [spnV, *])
          go_enter Tryd.func72, Tryd.ntmps72
          go_wp2
          go_ret
          exact ⟨ret_bool H.out, rfl⟩
        · have H := Lib.hid (show false = spnV l b by simp [spnV, *])
          go_enter Tryd.func72, Tryd.ntmps72
          go_wp2
          go_ret
          exact ⟨ret_bool H.out, rfl⟩
      · have H := Lib.hid (show false = spnV l b by simp [spnV, *])
        go_enter Tryd.func72, Tryd.ntmps72
        go_wp2
        go_ret
        exact ⟨ret_bool H.out, rfl⟩
    · have H := Lib.hid (show false = spnV l b by simp [spnV, *])
      go_enter Tryd.func72, Tryd.ntmps72
      go_wp2
      go_ret
      exact ⟨ret_bool H.out, rfl⟩
  · have H := Lib.hid (show false = spnV l b by simp [spnV, *])
    go_enter Tryd.func72, Tryd.ntmps72
    go_wp2
    go_ret
    exact ⟨ret_bool H.out, rfl⟩

set_option maxRecDepth 100000 in
set_option maxHeartbeats 400000 in
theorem rspn_valid (l b : Int) (w : World) : Calls Tryd.prog 42 #[.int .i64 l, .int .i64 b] w fun e w' => e = .returned (.bool (spnV l b)) ∧ w = w' := by
  by_cases h1 : 1 ≤ l
  · by_cases h2 : l ≤ 1000
    · by_cases h3 : 9 ≤ b
      · by_cases h4 : b ≤ 1024
        · have H := Lib.hid (show true = spnV l b by simp [spnV, *])
          go_enter Tryd.func42, Tryd.ntmps42
          go_wp2
          go_ret
          exact ⟨ret_bool H.out, rfl⟩
        · have H := Lib.hid (show false = spnV l b by simp [spnV, *])
          go_enter Tryd.func42, Tryd.ntmps42
          go_wp2
          go_ret
          exact ⟨ret_bool H.out, rfl⟩
      · have H := Lib.hid (show false = spnV l b by simp [spnV, *])
        go_enter Tryd.func42, Tryd.ntmps42
        go_wp2
        go_ret
        exact ⟨ret_bool H.out, rfl⟩
    · have H := Lib.hid (show false = spnV l b by simp [spnV, *])
      go_enter Tryd.func42, Tryd.ntmps42
      go_wp2
      go_ret
      exact ⟨ret_bool H.out, rfl⟩
  · have H := Lib.hid (show false = spnV l b by simp [spnV, *])
    go_enter Tryd.func42, Tryd.ntmps42
    go_wp2
    go_ret
    exact ⟨ret_bool H.out, rfl⟩

set_option maxRecDepth 100000 in
set_option maxHeartbeats 400000 in
theorem num_valid (n : Int) (w : World) : Calls Tryd.prog 31 #[.int .i64 n] w fun e w' => e = .returned (.bool (numV n)) ∧ w = w' := by
  by_cases h1 : 0 ≤ n
  · by_cases h2 : n ≤ 1099511627776
    · have H := Lib.hid (show true = numV n by simp [numV, *])
      go_enter Tryd.func31, Tryd.ntmps31
      go_wp2
      go_ret
      exact ⟨ret_bool H.out, rfl⟩
    · have H := Lib.hid (show false = numV n by simp [numV, *])
      go_enter Tryd.func31, Tryd.ntmps31
      go_wp2
      go_ret
      exact ⟨ret_bool H.out, rfl⟩
  · have H := Lib.hid (show false = numV n by simp [numV, *])
    go_enter Tryd.func31, Tryd.ntmps31
    go_wp2
    go_ret
    exact ⟨ret_bool H.out, rfl⟩

set_option maxRecDepth 100000 in
set_option maxHeartbeats 400000 in
theorem rnum_valid (n : Int) (w : World) : Calls Tryd.prog 29 #[.int .i64 n] w fun e w' => e = .returned (.bool (numV n)) ∧ w = w' := by
  by_cases h1 : 0 ≤ n
  · by_cases h2 : n ≤ 1099511627776
    · have H := Lib.hid (show true = numV n by simp [numV, *])
      go_enter Tryd.func29, Tryd.ntmps29
      go_wp2
      go_ret
      exact ⟨ret_bool H.out, rfl⟩
    · have H := Lib.hid (show false = numV n by simp [numV, *])
      go_enter Tryd.func29, Tryd.ntmps29
      go_wp2
      go_ret
      exact ⟨ret_bool H.out, rfl⟩
  · have H := Lib.hid (show false = numV n by simp [numV, *])
    go_enter Tryd.func29, Tryd.ntmps29
    go_wp2
    go_ret
    exact ⟨ret_bool H.out, rfl⟩

set_option maxRecDepth 100000 in
set_option maxHeartbeats 400000 in
theorem most_any (l b : Nat) (w : World) (h : fixV l b = true) : Calls Tryd.prog 84 #[.int .i64 l, .int .i64 b] w fun e w' => e = .returned (.int .i64 ((b / l : Nat) : Int)) ∧ w = w' := by
  have hb : 1 ≤ (l : Int) ∧ (l : Int) ≤ 1000 ∧ (l : Int) ≤ b ∧ (b : Int) ≤ 1024 := by simp [fixV] at h; omega
  obtain ⟨h1, h2, h3, h4⟩ := hb
  have H := Lib.hid h
  clear h
  have hne : ((l : Int) == 0) = false := by simp; omega
  go_enter Tryd.func84, Tryd.ntmps84
  go_wp2_with fail
  refine (fix_valid _ _ _).mono ?_
  rintro e w1 ⟨rfl, rfl⟩
  rw [H.out]
  go_wp2
  go_ret
  exact ⟨ret_int (by rw [w64 _ (Int.ediv_nonneg (by omega) (by omega)) (Int.le_trans (Int.ediv_le_self _ (by omega)) (by omega))]; simp), rfl⟩

set_option maxRecDepth 100000 in
set_option maxHeartbeats 400000 in
theorem rmost_any (l b : Nat) (w : World) (h : fixV l b = true) : Calls Tryd.prog 81 #[.int .i64 l, .int .i64 b] w fun e w' => e = .returned (.int .i64 ((b / l : Nat) : Int)) ∧ w = w' := by
  have hb : 1 ≤ (l : Int) ∧ (l : Int) ≤ 1000 ∧ (l : Int) ≤ b ∧ (b : Int) ≤ 1024 := by simp [fixV] at h; omega
  obtain ⟨h1, h2, h3, h4⟩ := hb
  have H := Lib.hid h
  clear h
  have hne : ((l : Int) == 0) = false := by simp; omega
  go_enter Tryd.func81, Tryd.ntmps81
  go_wp2_with fail
  refine (rfix_valid _ _ _).mono ?_
  rintro e w1 ⟨rfl, rfl⟩
  rw [H.out]
  go_wp2
  go_ret
  exact ⟨ret_int (by rw [w64 _ (Int.ediv_nonneg (by omega) (by omega)) (Int.le_trans (Int.ediv_le_self _ (by omega)) (by omega))]; simp), rfl⟩

set_option maxHeartbeats 400000 in
theorem atmost_any (n l : Int) (w : World) : Calls Tryd.prog 71 #[.int .i64 n, .int .i64 l] w fun e w' => e = .returned (.bool (decide (n ≤ l))) ∧ w = w' := by
  go_enter Tryd.func71, Tryd.ntmps71
  go_wp2
  go_ret
  exact ⟨rfl, rfl⟩

set_option maxHeartbeats 400000 in
theorem isl_any (n l : Int) (w : World) : Calls Tryd.prog 67 #[.int .i64 n, .int .i64 l] w fun e w' => e = .returned (.bool ((n == l))) ∧ w = w' := by
  go_enter Tryd.func67, Tryd.ntmps67
  go_wp2
  go_ret
  exact ⟨rfl, rfl⟩

end Go.Proofs.YthkpcalopmddpaaDoor

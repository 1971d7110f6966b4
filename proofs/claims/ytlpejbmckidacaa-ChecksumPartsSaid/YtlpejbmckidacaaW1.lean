/-
  Walks of the small functions of the checksum seat.
-/
import Derived.Test.YtlpejbmckidacaaRows
import Derived.Test.YtlpejbmckidacaaM
import Derived.WalkKit
import Derived.WalkSpells
import Derived.WalkLawsBesides
import Derived.Lib.Hide
import Derived.Deep.QuietTactic
import Derived.BigQuiet
namespace Go.Proofs.Ytlpejbmckidacaa
open Go.RowKit

def N (r : BitVec 32) : Int := (r.toNat : Int)
def B (x : Int) : BitVec 32 := BitVec.ofInt 32 x
theorem N_lo (r) : 0 ≤ N r := by unfold N; omega
theorem N_hi (r) : N r ≤ 4294967295 := by unfold N; have := r.isLt; omega
theorem B_N (r) : B (N r) = r := by unfold B N; simp
theorem N_B (x : Int) (h0 : 0 ≤ x) (h1 : x ≤ 4294967295) : N (B x) = x := by
  unfold B N; rw [BitVec.toNat_ofInt]; omega
theorem N_inj {r t} (h : N r = N t) : r = t := by rw [← B_N r, ← B_N t, h]
theorem wrapN (n : Nat) (h : n < 4294967296) : IntKind.u32.wrap (n : Int) = (n : Int) := by rw [IntKind.wrap_u32]; omega
theorem bits_xor (a b : Int) : bits .xor .u32 a b = N (B a ^^^ B b) := by
  simp only [bits]; rw [wrapN _ (BitVec.isLt _)]; rfl
theorem bits_and (a b : Int) : bits .and .u32 a b = N (B a &&& B b) := by
  simp only [bits]; rw [wrapN _ (BitVec.isLt _)]; rfl
theorem B_div (x : Int) (k : Nat) (h0 : 0 ≤ x) (h1 : x ≤ 4294967295) : B (x / (2 ^ k : Nat)) = B x >>> k := by
  apply BitVec.eq_of_toNat_eq
  obtain ⟨n, rfl⟩ := Int.eq_ofNat_of_zero_le h0
  unfold B
  rw [BitVec.toNat_ushiftRight, Nat.shiftRight_eq_div_pow, ← Int.natCast_ediv]
  simp only [BitVec.ofInt_natCast, BitVec.toNat_ofNat]
  rw [Nat.mod_eq_of_lt (a := n) (by omega), Nat.mod_eq_of_lt]
  exact Nat.lt_of_le_of_lt (Nat.div_le_self _ _) (by omega)
theorem B_odd (x : Int) (h0 : 0 ≤ x) (h1 : x ≤ 4294967295) : (B x).getLsbD 0 = decide (x % 2 = 1) := by
  obtain ⟨n, rfl⟩ := Int.eq_ofNat_of_zero_le h0
  unfold B
  rw [BitVec.getLsbD, BitVec.ofInt_natCast, BitVec.toNat_ofNat, Nat.testBit_zero]
  rw [Bool.eq_iff_iff]; simp; omega

theorem sh_odd (x : Int) (h0 : 0 ≤ x) (h1 : x ≤ 4294967295) (ho : x % 2 = 1) : bits .xor .u32 (x / 2) 2197175160 = N (Crc.sh (B x)) := by
  rw [bits_xor, show x / 2 = x / (2 ^ 1 : Nat) from rfl, B_div x 1 h0 h1]
  unfold Crc.sh
  rw [if_pos (by rw [B_odd x h0 h1]; simpa using ho)]; rfl
theorem sh_even (x : Int) (h0 : 0 ≤ x) (h1 : x ≤ 4294967295) (ho : ¬ x % 2 = 1) : x / 2 = N (Crc.sh (B x)) := by
  unfold Crc.sh
  rw [if_neg (by rw [B_odd x h0 h1]; simpa using ho), ← B_div x 1 h0 h1, N_B _ (by omega) (by omega)]; rfl

theorem ret_int {k : IntKind} {a b : Int} (h : a = b) : Ending.returned (.int k a) = .returned (.int k b) := by rw [h]

set_option maxHeartbeats 400000 in
theorem refshift_any (x : Int) (w : World) (h0 : 0 ≤ x) (h1 : x ≤ 4294967295) :
    Calls Try.prog 29 #[.int .u32 x] w fun e w' => e = .returned (.int .u32 (N (Crc.sh (B x)))) ∧ w = w' := by
  by_cases ho : x % 2 = 1
  · have H := Lib.hid (sh_odd x h0 h1 ho)
    go_enter Try.func29, Try.ntmps29
    go_wp2
    go_ret
    exact ⟨ret_int H.out, rfl⟩
  · have H := Lib.hid (sh_even x h0 h1 ho)
    go_enter Try.func29, Try.ntmps29
    go_wp2
    go_ret
    exact ⟨ret_int H.out, rfl⟩

/-- shift of the program: n rounds. -/
theorem shift_odd_and (x : Int) (h0 : 0 ≤ x) (h1 : x ≤ 4294967295) : bits .and .u32 x 1 = x % 2 := by
  obtain ⟨n, rfl⟩ := Int.eq_ofNat_of_zero_le h0
  rw [u32_and _ _ (by omega) (by omega) (by omega) (by omega)]
  simp only [Int.toNat_natCast]
  rw [show (1 : Int).toNat = 1 from rfl, nat_mask1]; omega

set_option maxHeartbeats 400000 in
theorem shift_any (x k : Int) (w : World) (h0 : 0 ≤ x) (h1 : x ≤ 4294967295) (hk0 : 0 ≤ k) (hk : k ≤ 100) :
    Calls Try.prog 30 #[.int .u32 x, .int .i64 k] w fun e w' => e = .returned (.int .u32 (N (Crc.shn k.toNat (B x)))) ∧ w = w' := by
  obtain ⟨K, rfl⟩ := Int.eq_ofNat_of_zero_le hk0
  go_enter Try.func30, Try.ntmps30
  go_wp2
  go_loop [0, 6] (fun s i => ∃ (j : Nat) (r : Int), j ≤ K ∧ 0 ≤ r ∧ r ≤ 4294967295 ∧ i = .int .i64 j ∧ s = .int .u32 r ∧ r = N (Crc.shn j (B x))) (fun _ i => K - (intOf i).toNat)
  case atStart => exact ⟨0, x, by omega, h0, h1, rfl, rfl, by rw [Crc.shn, N_B x h0 h1]⟩
  case round =>
    obtain ⟨j, r, hj, hr0, hr1, rfl, rfl, hr⟩ := hrel
    have HR := Lib.hid hr
    clear hr
    by_cases hlt : j < K
    · by_cases ho : r % 2 = 1
      · have hand := shift_odd_and r hr0 hr1
        have H := Lib.hid (sh_odd r hr0 hr1 ho)
        go_wp2
        go_round
        case rel => exact ⟨j + 1, _, by omega, by rw [H.out]; exact N_lo _, by rw [H.out]; exact N_hi _, by go_num, rfl, by rw [H.out, Crc.shn_succ', HR.out, B_N]⟩
        case measure => simp [intOf]; omega
      · have hand := shift_odd_and r hr0 hr1
        have H := Lib.hid (sh_even r hr0 hr1 ho)
        go_wp2
        go_round
        case rel => exact ⟨j + 1, _, by omega, by omega, by omega, by go_num, rfl, by rw [H.out, Crc.shn_succ', HR.out, B_N]⟩
        case measure => simp [intOf]; omega
    · have hjK : K = j := by omega
      subst hjK
      go_wp2
      go_ret
      exact ⟨ret_int HR.out, rfl⟩

/-- The table of sixteen registers, filled up to j. -/
def tabA (j : Nat) : Array Value := ((List.range 16).map fun i => Value.int .u32 (if i < j then N (Crc.shn 4 (B i)) else 0)).toArray
theorem tabA_size (j : Nat) : (tabA j).size = 16 := by simp [tabA]
theorem tabA_get (j i : Nat) (h : i < 16) : (tabA j)[i]? = some (.int .u32 (if i < j then N (Crc.shn 4 (B i)) else 0)) := by simp [tabA, h]
theorem tabA_set (j : Nat) : (tabA j).setIfInBounds j (.int .u32 (N (Crc.shn 4 (B j)))) = tabA (j + 1) := by
  apply Array.ext_getElem?
  intro i
  rw [Array.getElem?_setIfInBounds, tabA_size]
  by_cases hi : i < 16
  · rw [tabA_get _ _ hi, tabA_get _ _ hi]
    by_cases e : j = i
    · subst e; simp [hi]
    · rw [if_neg e]
      by_cases h2 : i < j
      · simp [h2, show i < j + 1 from by omega]
      · simp [h2, show ¬ i < j + 1 from by omega]
  · rw [Array.getElem?_eq_none (by rw [tabA_size]; omega), Array.getElem?_eq_none (by rw [tabA_size]; omega)]
    split <;> (try split) <;> first | rfl | omega

theorem heap_same {w : World} {a b : Nat} {o : Obj} (h : w.heap[a]? = some o) (e : a = b) : w.heap[b]? = some o := e ▸ h

theorem size40 : (Try.prog.info? 40).map (·.size) = some 16 := by kernel_rfl
theorem underlying40 : Try.prog.underlying 40 = some (.array 16 22) := by kernel_rfl

theorem tabA_one (j : Nat) : (tabA j).all (·.oneCell') = true := by simp [tabA, Value.oneCell']
theorem below_setRow {n : Nat} {a w : World} (h : Below n a w) {g : Nat} (hg : n ≤ g) (cs : Array Value) : Below n a (w.setRow g cs) :=
  h.trans ⟨rfl, rfl, rfl, by simp, fun k hk => setRow_other _ _ _ _ (by omega)⟩

set_option maxHeartbeats 400000 in
theorem table_any (w : World) :
    Calls Try.prog 27 #[] w fun e w' => e = .returned (.agg (tabA 16)) ∧ Below w.heap.size w w' := by
  go_enter Try.func27, Try.ntmps27
  go_wp2
  go_loopw [2, 3] (fun _ i wr => ∃ j : Nat, j ≤ 16 ∧ i = .int .i64 j ∧ wr.heap[w.heap.size]? = some (.cells (tabA 0) 40 (0, 0)) ∧ wr.heap[w.heap.size + 1]? = some (.cells (tabA j) 40 (0, 0)) ∧ Below w.heap.size w wr ∧ wr.heap.size = w.heap.size + 2) (fun _ i _ => 16 - (intOf i).toNat)
  case atStart => exact ⟨0, by omega, rfl, heap_alloc2_old _ _ _, heap_alloc2_new _ _ _, ((Below.refl _ _).alloc (by simp) _).alloc (by simp) _, by simp⟩
  case round =>
    obtain ⟨j, hj, rfl, hA, hB, hbel, hsz⟩ := hrel
    have HA := Lib.hid hA
    have HB := Lib.hid hB
    have HS := Lib.hid hsz
    clear hA hB hsz
    by_cases hlt : j < 16
    · have hcell : wr.cell? ⟨w.heap.size + 1, j, none⟩ = some (.int .u32 0) := by
        rw [cell_of_row _ _ _ _ _ _ HB.out, tabA_get _ _ hlt, if_neg (by omega)]
      have hfree : wr.frozen? ⟨w.heap.size + 1, j, none⟩ = false := frozen_of_row _ _ _ _ _ HB.out
      go_wp2_with (go_at_call 30; refine (shift_any _ _ _ (by omega) (by omega) (by omega) (by omega)).mono ?_; rintro e w' ⟨rfl, rfl⟩)
      go_roundw
      case rel => exact ⟨j + 1, by omega, by go_num, by rw [heap_setCell_other _ _ _ _ (by simp)]; exact HA.out, by rw [heap_setCell_same _ _ _ _ _ _ HB.out, tabA_set], hbel.setCell (by simp) _, by simp [World.setCell]; exact HS.out⟩
      case measure => simp [intOf]; omega
    · have hj16 : j = 16 := by omega
      subst hj16
      go_wp2_with (first | (refine wpList_load_row rfl _ _ rfl (w.heap.size + 1) rfl 40 (tabA 16) (0, 0) _ HB.out underlying40 rfl (by rw [size40, tabA_size]) ?_) | (refine wpList_store_row rfl _ _ _ rfl w.heap.size (tabA 16) rfl rfl 40 (tabA 0) HA.out (by rw [size40, tabA_size]) (by rw [tabA_size, tabA_size]) (tabA_one 16) ?_))
      exact bodyPost_ret (v := .agg (tabA 16)) (results_cell_row rfl _ _ w.heap.size 40 (tabA 16) (0, 0) _ rfl (setRow_heap _ _ _ _ _ _ HA.out) underlying40 rfl (by rw [size40, tabA_size])) rfl ⟨rfl, below_setRow hbel (by omega) _⟩

end Go.Proofs.Ytlpejbmckidacaa

/-
  Walks of the matrix of the program's Combine.
-/
import Derived.Test.YtlpejbmckidacaaWB
namespace Go.Proofs.Ytlpejbmckidacaa
open Go.RowKit Go.Sort

/-- The matrix of k shifts, filled up to j. -/
def mat (k j : Nat) : Array Value := ((List.range 32).map fun i => Value.int .u32 (if i < j then N (Crc.shn k (Crc.bit1 i)) else 0)).toArray
theorem mat_size (k j : Nat) : (mat k j).size = 32 := by simp [mat]
theorem mat_get (k j i : Nat) (h : i < 32) : (mat k j)[i]? = some (.int .u32 (if i < j then N (Crc.shn k (Crc.bit1 i)) else 0)) := by simp [mat, h]
theorem mat_set (k j : Nat) (v : Int) (hv : v = N (Crc.shn k (Crc.bit1 j))) : (mat k j).setIfInBounds j (.int .u32 v) = mat k (j + 1) := by
  subst hv
  apply Array.ext_getElem?
  intro i
  rw [Array.getElem?_setIfInBounds, mat_size]
  by_cases hi : i < 32
  · rw [mat_get _ _ _ hi, mat_get _ _ _ hi]
    by_cases e : j = i
    · subst e; simp [hi]
    · rw [if_neg e]
      by_cases h2 : i < j
      · simp [h2, show i < j + 1 from by omega]
      · simp [h2, show ¬ i < j + 1 from by omega]
  · rw [Array.getElem?_eq_none (by rw [mat_size]; omega), Array.getElem?_eq_none (by rw [mat_size]; omega)]
    split <;> (try split) <;> first | rfl | omega
theorem mat_one (k j : Nat) : (mat k j).all (·.oneCell') = true := by simp [mat, Value.oneCell']
theorem mat_zero (k k' : Nat) : mat k 0 = mat k' 0 := by simp [mat]
theorem size47 : (Try.prog.info? 47).map (·.size) = some 32 := by kernel_rfl
theorem underlying47 : Try.prog.underlying 47 = some (.array 32 22) := by kernel_rfl

theorem shr_zero (x : BitVec 32) (i : Nat) (h : N (x >>> i) = 0) : x >>> i = 0#32 := by
  apply BitVec.eq_of_toNat_eq
  unfold N at h
  have : (0#32 : BitVec 32).toNat = 0 := rfl
  omega
theorem shr_lt (x : BitVec 32) (i : Nat) (h : ¬ N (x >>> i) = 0) : i < 32 := by
  rcases Nat.lt_or_ge i 32 with h1 | h1
  · exact h1
  · exfalso
    apply h
    have : x >>> i = 0#32 := by
      apply BitVec.eq_of_getLsbD_eq
      intro j hj
      rw [BitVec.getLsbD_ushiftRight, BitVec.getLsbD_of_ge _ _ (by omega)]; simp
    rw [this]; rfl
theorem shr_bit (x : BitVec 32) (i : Nat) : x.getLsbD i = decide (N (x >>> i) % 2 = 1) := by
  have h := B_odd (N (x >>> i)) (N_lo _) (N_hi _)
  rw [B_N, BitVec.getLsbD_ushiftRight, Nat.add_zero] at h
  exact h
theorem shr_succ (x : BitVec 32) (i : Nat) : N (x >>> i) / 2 = N (x >>> (i + 1)) := by
  have h := B_div (N (x >>> i)) 1 (N_lo _) (N_hi _)
  rw [B_N, ← BitVec.shiftRight_add] at h
  have h2 := N_B (N (x >>> i) / (2 ^ 1 : Nat)) (by have := N_lo (x >>> i); omega) (by have := N_lo (x >>> i); have := N_hi (x >>> i); omega)
  rw [h] at h2
  exact h2.symm

set_option maxHeartbeats 400000 in
theorem apply_any (x : Int) (k g : Nat) (w : World) (x0 : 0 ≤ x) (x1 : x ≤ 4294967295) (hg : w.heap[g]? = some (.cells (mat k 32) 47 (0, 0))) :
    Calls Try.prog 31 #[.pointer (some ⟨g, 0, none⟩), .int .u32 x] w fun e w' => e = .returned (.int .u32 (N (Crc.shn k (B x)))) ∧ w = w' := by
  have HG := Lib.hid hg
  clear hg
  go_enter Try.func31, Try.ntmps31
  go_wp2
  go_loop [1, 5, 6] (fun v p i => ∃ (j : Nat) (c q : Int), j ≤ 32 ∧ i = .int .i64 j ∧ v = .int .u32 c ∧ p = .int .u32 q ∧ c = N (B x >>> j) ∧ q = N (Crc.shn k (Crc.low j (B x)))) (fun _ _ i => 32 - (intOf i).toNat)
  case atStart => exact ⟨0, x, 0, by omega, rfl, rfl, rfl, by simp [N_B x x0 x1], by rw [Crc.low_zero, Crc.shn_zero]; rfl⟩
  case round =>
    obtain ⟨j, c, q, hj, rfl, rfl, rfl, hc, hq⟩ := hrel
    have HC := Lib.hid hc
    have HQ := Lib.hid hq
    have c0 : 0 ≤ c := by rw [hc]; exact N_lo _
    have c1 : c ≤ 4294967295 := by rw [hc]; exact N_hi _
    clear hc hq
    by_cases hz : c = 0
    · have hzb : (c != 0) = false := by simp [hz]
      have HZ := Lib.hid hz
      clear hz
      go_wp2
      go_ret
      refine ⟨ret_int ?_, rfl⟩
      rw [HQ.out, Crc.low_all j _ (shr_zero _ _ (by rw [← HC.out]; exact HZ.out))]
    · have hzb : (c != 0) = true := by simp [hz]
      have hj32 : j < 32 := shr_lt (B x) j (by rw [← HC.out]; exact hz)
      clear hz
      have hand := shift_odd_and c c0 c1
      have hbit := shr_bit (B x) j
      rw [← HC.out] at hbit
      have hs := shr_succ (B x) j
      rw [← HC.out] at hs
      have HS := Lib.hid hs
      clear hs
      by_cases ho : c % 2 = 1
      · have HB : Hid ((B x).getLsbD j = true) := Lib.hid (by rw [hbit]; simpa using ho)
        clear hbit
        have hcell : w.cell? ⟨g, j, none⟩ = some (.int .u32 (N (Crc.shn k (Crc.bit1 j)))) := by
          rw [cell_of_row _ _ _ _ _ _ HG.out, mat_get _ _ _ hj32, if_pos hj32]
        go_wp2
        go_round
        case rel => exact ⟨j + 1, _, _, by omega, by go_num, rfl, rfl, HS.out, by rw [bits_xor, HQ.out, B_N, B_N, Crc.low_succ_true j _ hj32 HB.out, Crc.shn_xor]⟩
        case measure => simp [intOf]; omega
      · have HB : Hid ((B x).getLsbD j = false) := Lib.hid (by rw [hbit]; simpa using ho)
        clear hbit
        go_wp2
        go_round
        case rel => exact ⟨j + 1, _, _, by omega, by go_num, rfl, rfl, HS.out, by rw [HQ.out, Crc.low_succ_false j _ HB.out]⟩
        case measure => simp [intOf]; omega

set_option maxHeartbeats 400000 in
theorem square_any (k g : Nat) (w : World) (hg : w.heap[g]? = some (.cells (mat k 32) 47 (0, 0))) :
    Calls Try.prog 32 #[.pointer (some ⟨g, 0, none⟩)] w fun e w' => e = .returned (.agg (mat (k + k) 32)) ∧ Below w.heap.size w w' := by
  have hglt := lt_of_block hg
  have HG := Lib.hid hg
  clear hg
  go_enter Try.func32, Try.ntmps32
  go_wp2
  go_loopw [4, 5] (fun _ i wr => ∃ j : Nat, j ≤ 32 ∧ i = .int .i64 j ∧ wr.heap[w.heap.size]? = some (.cells (mat 0 0) 47 (0, 0)) ∧ wr.heap[w.heap.size + 1]? = some (.cells (mat (k + k) j) 47 (0, 0)) ∧ Below w.heap.size w wr) (fun _ i _ => 32 - (intOf i).toNat)
  case atStart => exact ⟨0, by omega, rfl, heap_alloc2_old _ _ _, by rw [mat_zero _ 0]; exact heap_alloc2_new _ _ _, ((Below.refl _ _).alloc (by simp) _).alloc (by simp) _⟩
  case round =>
    obtain ⟨j, hj, rfl, hA, hB, hbel⟩ := hrel
    have HA := Lib.hid hA
    have HB := Lib.hid hB
    clear hA hB
    by_cases hlt : j < 32
    · have HGr : Hid (wr.heap[g]? = some (.cells (mat k 32) 47 (0, 0))) := by rw [hbel.block g hglt]; exact HG.out
      have hcg : wr.cell? ⟨g, j, none⟩ = some (.int .u32 (N (Crc.shn k (Crc.bit1 j)))) := by
        rw [cell_of_row _ _ _ _ _ _ HGr.out, mat_get _ _ _ hlt, if_pos hlt]
      have hcell : wr.cell? ⟨w.heap.size + 1, j, none⟩ = some (.int .u32 0) := by
        rw [cell_of_row _ _ _ _ _ _ HB.out, mat_get _ _ _ hlt, if_neg (by omega)]
      have hfree : wr.frozen? ⟨w.heap.size + 1, j, none⟩ = false := frozen_of_row _ _ _ _ _ HB.out
      have n0 := N_lo (Crc.shn k (Crc.bit1 j))
      have n1 := N_hi (Crc.shn k (Crc.bit1 j))
      go_wp2_with (go_at_call 31; refine (apply_any _ k g _ n0 n1 HGr.out).mono ?_; rintro e w' ⟨rfl, rfl⟩)
      go_roundw
      case rel =>
        refine ⟨j + 1, by omega, by go_num, by rw [heap_setCell_other _ _ _ _ (by simp)]; exact HA.out, ?_, hbel.setCell (by simp) _⟩
        rw [heap_setCell_same _ _ _ _ _ _ HB.out, mat_set]
        rw [B_N, ← Crc.shn_add]
      case measure => simp [intOf]; omega
    · have hj32 : j = 32 := by omega
      subst hj32
      go_wp2_with (first | (refine wpList_load_row rfl _ _ rfl (w.heap.size + 1) rfl 47 (mat (k + k) 32) (0, 0) _ HB.out underlying47 rfl (by rw [size47, mat_size]) ?_) | (refine wpList_store_row rfl _ _ _ rfl w.heap.size (mat (k + k) 32) rfl rfl 47 (mat 0 0) HA.out (by rw [size47, mat_size]) (by rw [mat_size, mat_size]) (mat_one _ 32) ?_))
      exact bodyPost_ret (v := .agg (mat (k + k) 32)) (results_cell_row rfl _ _ w.heap.size 47 (mat (k + k) 32) (0, 0) _ rfl (setRow_heap _ _ _ _ _ _ HA.out) underlying47 rfl (by rw [size47, mat_size])) rfl ⟨rfl, below_setRow hbel (by omega) _⟩

theorem bit1_int (j : Nat) (h : j < 32) : ((2 : Int) ^ j) = N (Crc.bit1 j) := by
  unfold N Crc.bit1
  rw [BitVec.toNat_ofNat]
  have : (2 : Nat) ^ j < 2 ^ 32 := Nat.pow_lt_pow_right (by omega) h
  rw [Nat.mod_eq_of_lt (by omega)]; simp

theorem and_one_i64 (m : Nat) (h : m ≤ 9223372036854775807) : bits .and .i64 (m : Int) 1 = ((m % 2 : Nat) : Int) := by
  have := bits_nat .i64 63 (by decide) (fun n h0 h1 => by rw [IntKind.wrap_i64]; omega) m 1 (by omega) (by decide)
  rw [show (1 : Int) = ((1 : Nat) : Int) from rfl]
  rw [this.1, nat_mask1]

set_option maxHeartbeats 1000000 in
theorem combine_any (a b n : Int) (w : World) (a0 : 0 ≤ a) (a1 : a ≤ 4294967295) (hn : n ≤ 9223372036854775807) :
    Calls Try.prog 25 #[.int .u32 a, .int .u32 b, .int .i64 n] w fun e w' => e = .returned (.int .u32 (comb a b n)) ∧ Below w.heap.size w w' := by
  go_enter Try.func25, Try.ntmps25
  go_wp2
  go_loopw [8, 9] (fun _ i wr => ∃ j : Nat, j ≤ 32 ∧ i = .int .i64 j ∧ wr.heap[w.heap.size]? = some (.cells (mat 8 j) 47 (0, 0)) ∧ Below w.heap.size w wr) (fun _ i _ => 32 - (intOf i).toNat)
  case atStart => exact ⟨0, by omega, rfl, heap_alloc_new _ _, (Below.refl _ _).alloc (by simp) _⟩
  case round =>
    obtain ⟨j, hj, rfl, hB, hbel⟩ := hrel
    have HB := Lib.hid hB
    clear hB
    by_cases hlt : j < 32
    · have hcell : wr.cell? ⟨w.heap.size, j, none⟩ = some (.int .u32 0) := by
        rw [cell_of_row _ _ _ _ _ _ HB.out, mat_get _ _ _ hlt, if_neg (by omega)]
      have hfree : wr.frozen? ⟨w.heap.size, j, none⟩ = false := frozen_of_row _ _ _ _ _ HB.out
      have hpw : (2 : Int) ^ j % 4294967296 = N (Crc.bit1 j) := by
        rw [bit1_int j hlt]
        have := N_lo (Crc.bit1 j); have := N_hi (Crc.bit1 j); omega
      have n0 := N_lo (Crc.bit1 j)
      have n1 := N_hi (Crc.bit1 j)
      go_wp2_with (go_at_call 30; refine (shift_any _ _ _ n0 n1 (by omega) (by omega)).mono ?_; rintro e w' ⟨rfl, rfl⟩)
      go_roundw
      case rel =>
        refine ⟨j + 1, by omega, by go_num, ?_, hbel.setCell (by simp) _⟩
        rw [heap_setCell_same _ _ _ _ _ _ HB.out, mat_set]
        rw [B_N]
      case measure => simp [intOf]; omega
    · have hj32 : j = 32 := by omega
      subst hj32
      by_cases hpos : 0 < n
      · obtain ⟨k, rfl⟩ := Int.eq_ofNat_of_zero_le (Int.le_of_lt hpos)
        go_wp2_with fail
        rw [show ((32 : Nat) : Int) = 32 from rfl]
        go_loopw [0, 2] (fun v i wq => ∃ (r d m : Nat) (x : Int), i = .int .i64 (m : Int) ∧ v = .int .u32 x ∧ d + 2 ^ r * m = k ∧ x = N (Crc.shn (8 * d) (B a)) ∧ m ≤ k ∧ wq.heap[w.heap.size]? = some (.cells (mat (8 * 2 ^ r) 32) 47 (0, 0)) ∧ Below w.heap.size w wq) (fun _ i _ => (intOf i).toNat)
        case atStart => exact ⟨0, 0, k, a, rfl, rfl, by simp, (N_B a a0 a1).symm, Nat.le_refl _, HB.out, hbel⟩
        case round =>
          obtain ⟨r, d, m, x, rfl, rfl, hd, hx, hm, hC, hbel2⟩ := hrel
          have HD := Lib.hid hd
          have HX := Lib.hid hx
          have HC := Lib.hid hC
          have hglt := lt_of_block hC
          have x0 : 0 ≤ x := by rw [hx]; exact N_lo _
          have x1 : x ≤ 4294967295 := by rw [hx]; exact N_hi _
          clear hd hx hC
          by_cases hlt0 : 0 < m
          · have hm63 : m ≤ 9223372036854775807 := by omega
            by_cases ho : m % 2 = 1
            · have hand : bits .and .i64 (m : Int) 1 = 1 := by rw [and_one_i64 m hm63, ho]; rfl
              have HO := Lib.hid ho
              clear ho
              go_wp2_with (first
                | (go_at_call 31; refine (apply_any _ _ _ _ x0 x1 HC.out).mono ?_; rintro e w3 ⟨rfl, rfl⟩)
                | (go_at_call 32; refine (square_any _ _ _ HC.out).mono ?_; rintro e w2 ⟨rfl, hb2⟩; have hC2 := Lib.hid ((hb2.block _ hglt).trans HC.out))
                | (refine wpList_store_row rfl _ _ _ rfl w.heap.size (mat (8 * 2 ^ r + 8 * 2 ^ r) 32) rfl rfl 47 _ hC2.out (by rw [size47, mat_size]) (by rw [mat_size, mat_size]) (mat_one _ 32) ?_))
              go_roundw
              case rel =>
                refine ⟨r + 1, d + 2 ^ r, m / 2, _, by go_num, rfl, half_odd d r m k HD.out HO.out, ?_, by omega, ?_, below_setRow (hbel2.trans (hb2.mono hbel2.size)) (Nat.le_refl _) _⟩
                · rw [HX.out, B_N, ← Crc.shn_add, Nat.mul_add]
                · rw [setRow_heap _ _ _ _ _ _ hC2.out, pow_twice]
              case measure => simp [intOf]; omega
            · have hand : bits .and .i64 (m : Int) 1 = 0 := by rw [and_one_i64 m hm63, show m % 2 = 0 from by omega]; rfl
              have HO := Lib.hid ho
              clear ho
              go_wp2_with (first
                | (go_at_call 31; refine (apply_any _ _ _ _ x0 x1 HC.out).mono ?_; rintro e w3 ⟨rfl, rfl⟩)
                | (go_at_call 32; refine (square_any _ _ _ HC.out).mono ?_; rintro e w2 ⟨rfl, hb2⟩; have hC2 := Lib.hid ((hb2.block _ hglt).trans HC.out))
                | (refine wpList_store_row rfl _ _ _ rfl w.heap.size (mat (8 * 2 ^ r + 8 * 2 ^ r) 32) rfl rfl 47 _ hC2.out (by rw [size47, mat_size]) (by rw [mat_size, mat_size]) (mat_one _ 32) ?_))
              go_roundw
              case rel =>
                refine ⟨r + 1, d, m / 2, _, by go_num, rfl, half_even d r m k HD.out HO.out, HX.out, by omega, ?_, below_setRow (hbel2.trans (hb2.mono hbel2.size)) (Nat.le_refl _) _⟩
                rw [setRow_heap _ _ _ _ _ _ hC2.out, pow_twice]
              case measure => simp [intOf]; omega
          · have hm0 : m = 0 := by omega
            subst hm0
            go_wp2
            go_ret
            refine ⟨ret_int ?_, hbel2⟩
            rw [bits_xor, HX.out, B_N]
            have hd := HD.out
            rw [Nat.mul_zero, Nat.add_zero] at hd
            unfold comb
            rw [hd, Int.toNat_natCast]
      · have h0 : n.toNat = 0 := by omega
        have H0 := Lib.hid h0
        clear h0
        go_wp2_with fail
        refine wp_loop_rounds 1 ?_
        rw [rounds_succ]
        go_wp2
        go_ret
        refine ⟨ret_int ?_, hbel⟩
        unfold comb
        rw [bits_xor, H0.out]; rfl

end Go.Proofs.Ytlpejbmckidacaa

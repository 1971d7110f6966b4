/-
  Walks of the reference's product and of its Combine.
-/
import Derived.Test.YtlpejbmckidacaaW7
import Derived.Test.YtlpejbmckidacaaM3
namespace Go.Proofs.Ytlpejbmckidacaa
open Go.RowKit Go.Sort

/-- A bit of a word, as the program asks for it. -/
theorem bit_of (x : Int) (i : Nat) (h0 : 0 ≤ x) (h1 : x ≤ 4294967295) : (B x).getLsbD i = decide (x / 2 ^ i % 2 = 1) := by
  obtain ⟨n, rfl⟩ := Int.eq_ofNat_of_zero_le h0
  unfold B
  rw [BitVec.getLsbD, BitVec.ofInt_natCast, BitVec.toNat_ofNat, Nat.mod_eq_of_lt (by omega), Nat.testBit_eq_decide_div_mod_eq]
  rw [Bool.eq_iff_iff]; simp only [decide_eq_true_eq]
  rw [show ((n : Int) / 2 ^ i) = ((n / 2 ^ i : Nat) : Int) from by simp]
  omega

theorem tmod_true (x : Int) (i : Nat) (h0 : 0 ≤ x) (h1 : x ≤ 4294967295) (h : (B x).getLsbD i = true) : ((x / 2 ^ i).tmod 2 == 1) = true := by
  rw [bit_of x i h0 h1] at h
  have hn : 0 ≤ x / 2 ^ i := Int.ediv_nonneg h0 (Int.pow_nonneg (by decide))
  rw [Int.tmod_eq_emod_of_nonneg hn]
  simpa using h
theorem tmod_false (x : Int) (i : Nat) (h0 : 0 ≤ x) (h1 : x ≤ 4294967295) (h : (B x).getLsbD i = false) : ((x / 2 ^ i).tmod 2 == 1) = false := by
  rw [bit_of x i h0 h1] at h
  have hn : 0 ≤ x / 2 ^ i := Int.ediv_nonneg h0 (Int.pow_nonneg (by decide))
  rw [Int.tmod_eq_emod_of_nonneg hn]
  simpa using h

set_option maxHeartbeats 400000 in
theorem times_any (a b : Int) (w : World) (a0 : 0 ≤ a) (a1 : a ≤ 4294967295) (b0 : 0 ≤ b) (b1 : b ≤ 4294967295) :
    Calls Try.prog 33 #[.int .u32 a, .int .u32 b] w fun e w' => e = .returned (.int .u32 (N (Crc.times (B a) (B b)))) ∧ w = w' := by
  go_enter Try.func33, Try.ntmps33
  go_wp2
  go_loop [1, 5, 6] (fun v p i => ∃ (j : Nat) (c q : Int), j ≤ 32 ∧ i = .int .i64 (31 - (j : Int)) ∧ v = .int .u32 c ∧ p = .int .u32 q ∧ c = N (Crc.shn j (B b)) ∧ q = N (Crc.tsum (B a) (B b) j)) (fun _ _ i => (intOf i + 1).toNat)
  case atStart => exact ⟨0, b, 0, by omega, rfl, rfl, rfl, (N_B b b0 b1).symm, rfl⟩
  case round =>
    obtain ⟨j, c, q, hj, rfl, rfl, rfl, hc, hq⟩ := hrel
    have HC := Lib.hid hc
    have HQ := Lib.hid hq
    have c0 : 0 ≤ c := by rw [hc]; exact N_lo _
    have c1 : c ≤ 4294967295 := by rw [hc]; exact N_hi _
    clear hc hq
    by_cases hlt : j < 32
    · have e31 : (31 - (j : Int)).toNat = 31 - j := by omega
      cases hbit : (B a).getLsbD (31 - j) with
      | true =>
        have ht := tmod_true a (31 - j) a0 a1 hbit
        have HB := Lib.hid hbit
        clear hbit
        go_wp2_with (go_at_call 29; refine (refshift_any _ _ c0 c1).mono ?_; rintro e w1 ⟨rfl, rfl⟩)
        go_round
        case rel => exact ⟨j + 1, _, _, by omega, by go_num, rfl, rfl, by rw [HC.out, B_N, Crc.shn_succ'], by rw [bits_xor, HC.out, HQ.out, B_N, B_N]; simp only [Crc.tsum]; rw [if_pos HB.out]⟩
        case measure => simp [intOf]; omega
      | false =>
        have ht := tmod_false a (31 - j) a0 a1 hbit
        have HB := Lib.hid hbit
        clear hbit
        go_wp2_with (go_at_call 29; refine (refshift_any _ _ c0 c1).mono ?_; rintro e w1 ⟨rfl, rfl⟩)
        go_round
        case rel => exact ⟨j + 1, _, _, by omega, by go_num, rfl, rfl, by rw [HC.out, B_N, Crc.shn_succ'], by rw [HQ.out]; simp only [Crc.tsum]; rw [if_neg (by rw [HB.out]; decide), BitVec.xor_zero]⟩
        case measure => simp [intOf]; omega
    · have h32 : j = 32 := by omega
      subst h32
      go_wp2
      go_ret
      exact ⟨ret_int HQ.out, rfl⟩

/-- The arithmetic of one round of squaring. -/
theorem half_odd (d r m n : Nat) (h : d + 2 ^ r * m = n) (ho : m % 2 = 1) : (d + 2 ^ r) + 2 ^ (r + 1) * (m / 2) = n := by
  have e : m = 1 + 2 * (m / 2) := by omega
  rw [Nat.pow_succ, Nat.mul_assoc]
  rw [e, Nat.mul_add, Nat.mul_one] at h
  omega
theorem half_even (d r m n : Nat) (h : d + 2 ^ r * m = n) (ho : ¬ m % 2 = 1) : d + 2 ^ (r + 1) * (m / 2) = n := by
  have e : m = 2 * (m / 2) := by omega
  rw [Nat.pow_succ, Nat.mul_assoc, ← e]
  exact h
theorem pow_twice (r : Nat) : 8 * 2 ^ r + 8 * 2 ^ r = 8 * 2 ^ (r + 1) := by rw [Nat.pow_succ]; omega

/-- What Combine returns. -/
def comb (a b n : Int) : Int := N (Crc.shn (8 * n.toNat) (B a) ^^^ B b)

set_option maxHeartbeats 400000 in
theorem refcombine_any (a b n : Int) (w : World) (a0 : 0 ≤ a) (a1 : a ≤ 4294967295) (hn : n ≤ 9223372036854775807) :
    Calls Try.prog 26 #[.int .u32 a, .int .u32 b, .int .i64 n] w fun e w' => e = .returned (.int .u32 (comb a b n)) ∧ w = w' := by
  by_cases hpos : 0 < n
  · obtain ⟨k, rfl⟩ := Int.eq_ofNat_of_zero_le (Int.le_of_lt hpos)
    go_enter Try.func26, Try.ntmps26
    go_wp2
    go_loop [0, 2, 7] (fun v i p => ∃ (r d m : Nat) (x q : Int), i = .int .i64 (m : Int) ∧ v = .int .u32 x ∧ p = .int .u32 q ∧ d + 2 ^ r * m = k ∧ x = N (Crc.shn (8 * d) (B a)) ∧ q = N (Crc.shn (8 * 2 ^ r) Crc.one) ∧ m ≤ k) (fun _ i _ => (intOf i).toNat)
    case atStart => exact ⟨0, 0, k, a, 8388608, rfl, rfl, rfl, by simp, (N_B a a0 a1).symm, by rw [show 8 * 2 ^ 0 = 8 from rfl, Crc.power8]; rfl, Nat.le_refl _⟩
    case round =>
      obtain ⟨r, d, m, x, q, rfl, rfl, rfl, hd, hx, hq, hm⟩ := hrel
      have HD := Lib.hid hd
      have HX := Lib.hid hx
      have HQ := Lib.hid hq
      have x0 : 0 ≤ x := by rw [hx]; exact N_lo _
      have x1 : x ≤ 4294967295 := by rw [hx]; exact N_hi _
      have q0 : 0 ≤ q := by rw [hq]; exact N_lo _
      have q1 : q ≤ 4294967295 := by rw [hq]; exact N_hi _
      clear hd hx hq
      by_cases hlt : 0 < m
      · by_cases ho : m % 2 = 1
        · have hb : ((m : Int) % 2 == 1) = true := by rw [beq_iff_eq]; omega
          have HO := Lib.hid ho
          clear ho
          go_wp2_with (go_at_call 33; refine (times_any _ _ _ (by assumption) (by assumption) (by assumption) (by assumption)).mono ?_; rintro e w1 ⟨rfl, rfl⟩)
          go_round
          case rel =>
            refine ⟨r + 1, d + 2 ^ r, m / 2, _, _, by go_num, rfl, rfl, half_odd d r m k HD.out HO.out, ?_, ?_, by omega⟩
            · rw [HQ.out, HX.out, B_N, B_N, Crc.times_power, ← Crc.shn_add, Nat.mul_add]
            · rw [HQ.out, B_N, Crc.times_power, ← Crc.shn_add, pow_twice]
          case measure => simp [intOf]; omega
        · have hb : ((m : Int) % 2 == 1) = false := by rw [beq_eq_false_iff_ne]; omega
          have HO := Lib.hid ho
          clear ho
          go_wp2_with (go_at_call 33; refine (times_any q q _ q0 q1 q0 q1).mono ?_; rintro e w1 ⟨rfl, rfl⟩)
          go_round
          case rel =>
            refine ⟨r + 1, d, m / 2, _, _, by go_num, rfl, rfl, half_even d r m k HD.out HO.out, HX.out, ?_, by omega⟩
            rw [HQ.out, B_N, Crc.times_power, ← Crc.shn_add, pow_twice]
          case measure => simp [intOf]; omega
      · have h0 : m = 0 := by omega
        subst h0
        go_wp2
        go_ret
        refine ⟨ret_int ?_, rfl⟩
        rw [bits_xor, HX.out, B_N]
        have hd := HD.out
        rw [Nat.mul_zero, Nat.add_zero] at hd
        unfold comb
        rw [hd, Int.toNat_natCast]
  · have h0 : n.toNat = 0 := by omega
    have H0 := Lib.hid h0
    clear h0
    go_enter Try.func26, Try.ntmps26
    go_wp2
    refine wp_loop_rounds 1 ?_
    rw [rounds_succ]
    go_wp2
    go_ret
    refine ⟨ret_int ?_, rfl⟩
    unfold comb
    rw [bits_xor, H0.out]; rfl

end Go.Proofs.Ytlpejbmckidacaa

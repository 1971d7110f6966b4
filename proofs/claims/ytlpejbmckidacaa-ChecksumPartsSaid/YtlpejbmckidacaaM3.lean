/-
  Plain laws on the product of polynomials and on powers of the shift. No program is in sight here.
-/
import Derived.Test.YtlpejbmckidacaaM2
namespace Go.Proofs.Ytlpejbmckidacaa.Crc

/-- The registers with one bit. -/
def bit1 (i : Nat) : BitVec 32 := BitVec.ofNat 32 (2 ^ i)
theorem bit1_get (i j : Nat) (hi : i < 32) : (bit1 i).getLsbD j = decide (i = j) := by
  unfold bit1
  rw [BitVec.getLsbD_ofNat, Nat.testBit_two_pow]
  by_cases h : i = j
  · subst h; simp [hi]
  · simp [h]
/-- The lowest n bits. -/
def low (n : Nat) (x : BitVec 32) : BitVec 32 := BitVec.ofNat 32 (x.toNat % 2 ^ n)
theorem low_get (n : Nat) (x : BitVec 32) (j : Nat) : (low n x).getLsbD j = (decide (j < n) && x.getLsbD j) := by
  unfold low
  rw [BitVec.getLsbD_ofNat, Nat.testBit_mod_two_pow]
  by_cases h : j < 32
  · simp [h, BitVec.getLsbD]
  · have : x.getLsbD j = false := BitVec.getLsbD_of_ge _ _ (by omega)
    rw [this]; simp [h]
theorem low_zero (x : BitVec 32) : low 0 x = 0#32 := by
  apply BitVec.eq_of_getLsbD_eq; intro i hi; rw [low_get]; simp
theorem low_all (n : Nat) (x : BitVec 32) (h : x >>> n = 0#32) : low n x = x := by
  apply BitVec.eq_of_getLsbD_eq; intro i hi
  rw [low_get]
  by_cases hn : i < n
  · simp [hn]
  · have := congrArg (fun y => BitVec.getLsbD y (i - n)) h
    simp only [BitVec.getLsbD_ushiftRight, show n + (i - n) = i from by omega] at this
    rw [this]; simp
theorem low_32 (x : BitVec 32) : low 32 x = x := by
  apply BitVec.eq_of_getLsbD_eq; intro i hi; rw [low_get]; simp [hi]
theorem low_succ_true (n : Nat) (x : BitVec 32) (hn : n < 32) (h : x.getLsbD n = true) : low (n + 1) x = low n x ^^^ bit1 n := by
  apply BitVec.eq_of_getLsbD_eq; intro i hi
  rw [BitVec.getLsbD_xor, low_get, low_get, bit1_get n i hn]
  by_cases e : n = i
  · subst e; simp [h]
  · by_cases h2 : i < n
    · simp [e, h2, show i < n + 1 from by omega]
    · simp [e, h2, show ¬ i < n + 1 from by omega]
theorem low_succ_false (n : Nat) (x : BitVec 32) (h : x.getLsbD n = false) : low (n + 1) x = low n x := by
  apply BitVec.eq_of_getLsbD_eq; intro i hi
  rw [low_get, low_get]
  by_cases e : n = i
  · subst e; simp [h]
  · by_cases h2 : i < n
    · simp [h2, show i < n + 1 from by omega]
    · simp [h2, show ¬ i < n + 1 from by omega]

/-- Two additive maps that agree on single bits agree. -/
theorem linear_ext (f g : BitVec 32 → BitVec 32) (hf : ∀ x y, f (x ^^^ y) = f x ^^^ f y) (hg : ∀ x y, g (x ^^^ y) = g x ^^^ g y)
    (hb : ∀ i, i < 32 → f (bit1 i) = g (bit1 i)) (x : BitVec 32) : f x = g x := by
  have f0 : f 0#32 = 0#32 := by
    have := hf 0#32 0#32
    rw [BitVec.xor_self, BitVec.xor_self] at this; exact this
  have g0 : g 0#32 = 0#32 := by
    have := hg 0#32 0#32
    rw [BitVec.xor_self, BitVec.xor_self] at this; exact this
  have key : ∀ n, n ≤ 32 → f (low n x) = g (low n x) := by
    intro n
    induction n with
    | zero => intro _; rw [low_zero, f0, g0]
    | succ n ih =>
      intro hn
      cases h : x.getLsbD n with
      | true => rw [low_succ_true n x (by omega) h, hf, hg, ih (by omega), hb n (by omega)]
      | false => rw [low_succ_false n x h, ih (by omega)]
  have := key 32 (by omega)
  rwa [low_32] at this

/-- The product, as the reference's loop builds it. -/
def tsum (a b : BitVec 32) : Nat → BitVec 32
  | 0 => 0#32
  | j + 1 => tsum a b j ^^^ (if a.getLsbD (31 - j) then shn j b else 0#32)
def times (a b : BitVec 32) : BitVec 32 := tsum a b 32
theorem tsum_left (a a' b : BitVec 32) (j : Nat) : tsum (a ^^^ a') b j = tsum a b j ^^^ tsum a' b j := by
  induction j with
  | zero => simp [tsum]
  | succ j ih =>
    simp only [tsum]
    rw [ih, bv_lc, BitVec.getLsbD_xor]
    congr 1
    cases a.getLsbD (31 - j) <;> cases a'.getLsbD (31 - j) <;> simp
theorem tsum_right (a b b' : BitVec 32) (j : Nat) : tsum a (b ^^^ b') j = tsum a b j ^^^ tsum a b' j := by
  induction j with
  | zero => simp [tsum]
  | succ j ih =>
    simp only [tsum]
    rw [ih, bv_lc]
    congr 1
    cases a.getLsbD (31 - j)
    · simp
    · simp [shn_xor]
theorem shn_comm (k j : Nat) (b : BitVec 32) : shn j (shn k b) = shn k (shn j b) := by rw [← shn_add, ← shn_add, Nat.add_comm]
theorem tsum_shn (a b : BitVec 32) (k j : Nat) : tsum a (shn k b) j = shn k (tsum a b j) := by
  induction j with
  | zero => simp [tsum, shn_zero]
  | succ j ih =>
    simp only [tsum]
    rw [ih, shn_xor]
    congr 1
    cases a.getLsbD (31 - j)
    · simp [shn_zero]
    · simp [shn_comm]
def one : BitVec 32 := bit1 31
theorem bit1_shn (i : Nat) (h : i ≤ 31) : bit1 i = shn (31 - i) one := by
  have : ∀ k, k ≤ 31 → bit1 (31 - k) = shn k one := by
    intro k
    induction k with
    | zero => intro _; rfl
    | succ k ih =>
      intro hk
      rw [shn_succ', ← ih (by omega)]
      have e : bit1 (31 - k) = bit1 (31 - (k + 1)) <<< 1 := by
        apply BitVec.eq_of_toNat_eq
        unfold bit1
        rw [BitVec.toNat_shiftLeft, BitVec.toNat_ofNat, BitVec.toNat_ofNat, Nat.shiftLeft_eq, show 31 - k = 31 - (k + 1) + 1 from by omega, Nat.pow_succ, Nat.mod_mul_mod]
      rw [e, sh_shl]
      unfold bit1
      rw [BitVec.toNat_ofNat]
      have h1 : 2 ^ (31 - (k + 1)) ≤ 2 ^ 30 := Nat.pow_le_pow_right (by omega) (by omega)
      have h2 : (2 : Nat) ^ 30 < 2147483648 := by decide
      rw [Nat.mod_eq_of_lt (by omega)]; omega
  have := this (31 - i) (by omega)
  rwa [show 31 - (31 - i) = i from by omega] at this
theorem tsum_bit (i : Nat) (hi : i ≤ 31) (b : BitVec 32) (j : Nat) (hj : j ≤ 32) : tsum (bit1 i) b j = if 31 - i < j then shn (31 - i) b else 0#32 := by
  induction j with
  | zero => rfl
  | succ j ih =>
    simp only [tsum]
    rw [ih (by omega), bit1_get i _ (by omega)]
    by_cases e : i = 31 - j
    · have : 31 - i = j := by omega
      simp [e, show 31 - (31 - j) = j from by omega]
    · by_cases h : 31 - i < j
      · simp [e, h, show 31 - i < j + 1 from by omega]
      · simp [e, h, show ¬ 31 - i < j + 1 from by omega]
theorem times_bit (i : Nat) (hi : i ≤ 31) (b : BitVec 32) : times (bit1 i) b = shn (31 - i) b := by
  unfold times; rw [tsum_bit i hi b 32 (by omega), if_pos (by omega)]
theorem times_poly_one : times poly one = shn 32 one := by decide +kernel
theorem times_poly (b : BitVec 32) : times poly b = shn 32 b := by
  refine linear_ext (times poly) (shn 32) (fun x y => tsum_right poly x y 32) (shn_xor 32) (fun i hi => ?_) b
  rw [bit1_shn i (by omega)]
  show tsum poly _ 32 = _
  rw [tsum_shn]
  have : tsum poly one 32 = shn 32 one := times_poly_one
  rw [this, shn_comm]
theorem sh_one0 : sh (bit1 0) = poly := by decide
theorem times_sh (a b : BitVec 32) : times (sh a) b = sh (times a b) := by
  refine linear_ext (fun a => times (sh a) b) (fun a => sh (times a b)) (fun x y => ?_) (fun x y => ?_) (fun i hi => ?_) a
  · show times (sh (x ^^^ y)) b = _
    rw [sh_xor]; exact tsum_left _ _ b 32
  · show sh (times (x ^^^ y) b) = _
    rw [show times (x ^^^ y) b = times x b ^^^ times y b from tsum_left _ _ b 32, sh_xor]
  · show times (sh (bit1 i)) b = sh (times (bit1 i) b)
    rw [times_bit i (by omega)]
    by_cases h : i = 0
    · subst h
      rw [sh_one0, times_poly, ← shn_succ']
    · have e : sh (bit1 i) = bit1 (i - 1) := by
        rw [bit1_shn i (by omega), bit1_shn (i - 1) (by omega), ← shn_succ', show 31 - i + 1 = 31 - (i - 1) from by omega]
      rw [e, times_bit (i - 1) (by omega), ← shn_succ', show 31 - i + 1 = 31 - (i - 1) from by omega]
theorem times_power (k : Nat) (b : BitVec 32) : times (shn k one) b = shn k b := by
  induction k with
  | zero => exact times_bit 31 (by omega) b
  | succ k ih => rw [shn_succ', times_sh, ih, ← shn_succ']
theorem power8 : shn 8 one = 0x800000#32 := by decide +kernel

/-- The sum of two texts, one behind the other. -/
theorem sum_append (l m : List UInt8) : sum (l ++ m) = shn (8 * m.length) (sum l) ^^^ sum m := by
  unfold sum upd
  rw [run_append]
  have hn : ∀ y : BitVec 32, ~~~ y = BitVec.allOnes 32 ^^^ y := fun y => (BitVec.allOnes_xor).symm
  have e : run (~~~ 0#32) l = ~~~ 0#32 ^^^ (~~~ run (~~~ 0#32) l) := by
    have h0 : (~~~ 0#32 : BitVec 32) = BitVec.allOnes 32 := by decide
    rw [h0, hn (run _ l), ← BitVec.xor_assoc, BitVec.xor_self, BitVec.zero_xor]
  conv => lhs; rw [e]
  rw [run_xor, hn (_ ^^^ _), hn (run (~~~ 0#32) m)]
  rw [BitVec.xor_comm (shn _ _), BitVec.xor_assoc]
theorem upd_append (l m : List UInt8) : upd (sum l) m = sum (l ++ m) := by
  unfold sum upd
  rw [run_append, BitVec.not_not]

end Go.Proofs.Ytlpejbmckidacaa.Crc

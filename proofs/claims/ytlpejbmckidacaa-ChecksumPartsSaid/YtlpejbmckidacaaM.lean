/-
  Plain mathematics of the checksum: the shift register of CRC-32C over bit vectors, its linearity, and bytes of a word. No program is in sight here.
-/
namespace Go.Proofs.Ytlpejbmckidacaa.Crc

def poly : BitVec 32 := 0x82f63b78#32
def sh (c : BitVec 32) : BitVec 32 := if c.getLsbD 0 then (c >>> 1) ^^^ poly else c >>> 1
def shn : Nat → BitVec 32 → BitVec 32
  | 0, c => c
  | n + 1, c => shn n (sh c)

theorem sh_xor (a b : BitVec 32) : sh (a ^^^ b) = sh a ^^^ sh b := by
  unfold sh
  rw [BitVec.getLsbD_xor, BitVec.ushiftRight_xor_distrib]
  cases a.getLsbD 0 <;> cases b.getLsbD 0 <;> simp
  · rw [BitVec.xor_assoc]
  · rw [BitVec.xor_assoc, BitVec.xor_assoc, BitVec.xor_comm poly]
  · rw [BitVec.xor_assoc, BitVec.xor_comm poly, BitVec.xor_assoc, BitVec.xor_self, BitVec.xor_zero]

theorem shn_xor (n : Nat) : ∀ a b : BitVec 32, shn n (a ^^^ b) = shn n a ^^^ shn n b := by
  induction n with
  | zero => intro a b; rfl
  | succ n ih => intro a b; simp only [shn]; rw [sh_xor, ih]

theorem shn_add (m n : Nat) : ∀ c, shn (m + n) c = shn n (shn m c) := by
  induction m with
  | zero => intro c; simp [shn]
  | succ m ih => intro c; rw [Nat.succ_add]; simp only [shn]; exact ih _

theorem shn_succ' (n : Nat) (c : BitVec 32) : shn (n + 1) c = sh (shn n c) := by
  rw [shn_add]; rfl

theorem sh_zero : sh 0#32 = 0#32 := by decide
theorem shn_zero (n : Nat) : shn n 0#32 = 0#32 := by
  induction n with
  | zero => rfl
  | succ n ih => simp only [shn]; rw [sh_zero, ih]

theorem sh_inj {c : BitVec 32} (h : sh c = 0#32) : c = 0#32 := by
  unfold sh at h
  split at h
  · rename_i h0
    have h31 := congrArg (fun x => BitVec.getLsbD x 31) h
    simp [poly] at h31
  · rename_i h0
    have h0' : c.toNat % 2 = 0 := by
      simp [BitVec.getLsbD] at h0; omega
    have h1 := congrArg BitVec.toNat h
    simp [BitVec.toNat_ushiftRight, Nat.shiftRight_eq_div_pow] at h1
    apply BitVec.eq_of_toNat_eq
    simp; omega

theorem shn_inj (n : Nat) : ∀ {c : BitVec 32}, shn n c = 0#32 → c = 0#32 := by
  induction n with
  | zero => intro c h; exact h
  | succ n ih => intro c h; exact sh_inj (ih h)

theorem shn_inj2 (n : Nat) {a b : BitVec 32} (h : shn n a = shn n b) : a = b := by
  have : shn n (a ^^^ b) = 0#32 := by rw [shn_xor, h, BitVec.xor_self]
  have h2 := shn_inj n this
  have h3 : (a ^^^ b) ^^^ b = 0#32 ^^^ b := by rw [h2]
  rw [BitVec.xor_assoc, BitVec.xor_self, BitVec.xor_zero, BitVec.zero_xor] at h3
  exact h3

/-- A register whose lowest bits are free is only moved. -/
theorem sh_shl (x : BitVec 32) (h : x.toNat < 2147483648) : sh (x <<< 1) = x := by
  unfold sh
  rw [if_neg (by simp)]
  apply BitVec.eq_of_toNat_eq
  simp [Nat.shiftRight_eq_div_pow, Nat.shiftLeft_eq]
  omega

theorem shn_shl (k : Nat) : ∀ (x : BitVec 32), k ≤ 32 → x.toNat < 2 ^ (32 - k) → shn k (x <<< k) = x := by
  induction k with
  | zero => intro x _ _; simp [shn]
  | succ k ih =>
    intro x hk h
    have e : x <<< (k + 1) = (x <<< k) <<< 1 := by rw [BitVec.shiftLeft_add]
    have hp : (2 : Nat) ^ (32 - k) = 2 * 2 ^ (32 - (k + 1)) := by
      rw [show 32 - k = (32 - (k + 1)) + 1 from by omega, Nat.pow_succ]; omega
    have hk2 : (2 : Nat) ^ k * 2 ^ (32 - (k + 1)) = 2147483648 := by
      rw [← Nat.pow_add, show k + (32 - (k + 1)) = 31 from by omega]
    have hlt : (x <<< k).toNat < 2147483648 := by
      rw [BitVec.toNat_shiftLeft, Nat.shiftLeft_eq]
      have : x.toNat * 2 ^ k < 2147483648 := by
        rw [Nat.mul_comm, ← hk2]
        exact Nat.mul_lt_mul_of_pos_left h (Nat.two_pow_pos k)
      omega
    rw [e]; simp only [shn]
    rw [sh_shl _ hlt]
    exact ih x (by omega) (by omega)

/-- The register behind some bytes. -/
def bv8 (b : UInt8) : BitVec 32 := BitVec.ofNat 32 b.toNat
def run (c : BitVec 32) (l : List UInt8) : BitVec 32 := l.foldl (fun c b => shn 8 (c ^^^ bv8 b)) c
def upd (s : BitVec 32) (l : List UInt8) : BitVec 32 := ~~~ run (~~~ s) l
def sum (l : List UInt8) : BitVec 32 := upd 0#32 l

theorem run_append (c : BitVec 32) (l m : List UInt8) : run c (l ++ m) = run (run c l) m := by
  unfold run; rw [List.foldl_append]
theorem run_snoc (c : BitVec 32) (l : List UInt8) (b : UInt8) : run c (l ++ [b]) = shn 8 (run c l ^^^ bv8 b) := by
  rw [run_append]; rfl

theorem bv_lc (a b c d : BitVec 32) : (a ^^^ b) ^^^ (c ^^^ d) = (a ^^^ c) ^^^ (b ^^^ d) := by
  rw [BitVec.xor_assoc, BitVec.xor_assoc]; congr 1
  rw [← BitVec.xor_assoc, BitVec.xor_comm b c, BitVec.xor_assoc]

theorem run_xor (l : List UInt8) : ∀ c d : BitVec 32, run (c ^^^ d) l = run c l ^^^ shn (8 * l.length) d := by
  induction l with
  | nil => intro c d; simp [run, shn]
  | cons b l ih =>
    intro c d
    show run (shn 8 ((c ^^^ d) ^^^ bv8 b)) l = run (shn 8 (c ^^^ bv8 b)) l ^^^ _
    have : (c ^^^ d) ^^^ bv8 b = (c ^^^ bv8 b) ^^^ d := by
      rw [BitVec.xor_assoc, BitVec.xor_comm d, ← BitVec.xor_assoc]
    rw [this, shn_xor, ih, ← shn_add]
    rw [show 8 + 8 * l.length = 8 * (b :: l).length from by simp; omega]

/-- The table of sixteen registers: a register is moved four bits by one look. -/
theorem quarter (x b : BitVec 32) (hb : b.toNat < 16) : shn 4 (x ^^^ b) = (x >>> 4) ^^^ shn 4 ((x ^^^ b) &&& 15#32) := by
  have h1 : x ^^^ b = ((x >>> 4) <<< 4) ^^^ ((x ^^^ b) &&& 15#32) := by
    apply BitVec.eq_of_getLsbD_eq
    intro i hi
    simp only [BitVec.getLsbD_xor, BitVec.getLsbD_shiftLeft, BitVec.getLsbD_ushiftRight, BitVec.getLsbD_and]
    have hb4 : ∀ j, 4 ≤ j → b.getLsbD j = false := by
      intro j hj
      rw [BitVec.getLsbD]
      apply Nat.testBit_lt_two_pow
      calc b.toNat < 2 ^ 4 := hb
        _ ≤ 2 ^ j := Nat.pow_le_pow_right (by omega) hj
    by_cases h : i < 4
    · have : i = 0 ∨ i = 1 ∨ i = 2 ∨ i = 3 := by omega
      rcases this with rfl | rfl | rfl | rfl <;> simp
    · have e15 : (15#32 : BitVec 32).getLsbD i = false := by
        rw [BitVec.getLsbD]
        apply Nat.testBit_lt_two_pow
        calc (15#32 : BitVec 32).toNat < 2 ^ 4 := by decide
          _ ≤ 2 ^ i := Nat.pow_le_pow_right (by omega) (by omega)
      rw [hb4 i (by omega), e15]
      simp [h, show 4 + (i - 4) = i from by omega, hi]
  have hq : (x >>> 4).toNat < 2 ^ (32 - 4) := by
    rw [BitVec.toNat_ushiftRight, Nat.shiftRight_eq_div_pow]
    have := x.isLt; omega
  conv => lhs; rw [h1]
  rw [shn_xor, shn_shl 4 _ (by omega) hq]

/-- A byte is two quarters. -/
theorem byte_two (x : BitVec 32) (b : UInt8) :
    shn 8 (x ^^^ bv8 b) = shn 4 (shn 4 (x ^^^ (bv8 b &&& 15#32)) ^^^ (bv8 b >>> 4)) := by
  have hb : (bv8 b).toNat = b.toNat := by unfold bv8; rw [BitVec.toNat_ofNat]; have := b.toNat_lt; omega
  have h1 : bv8 b = (bv8 b &&& 15#32) ^^^ ((bv8 b >>> 4) <<< 4) := by
    apply BitVec.eq_of_getLsbD_eq
    intro i hi
    simp only [BitVec.getLsbD_xor, BitVec.getLsbD_shiftLeft, BitVec.getLsbD_ushiftRight, BitVec.getLsbD_and]
    by_cases h : i < 4
    · have : i = 0 ∨ i = 1 ∨ i = 2 ∨ i = 3 := by omega
      rcases this with rfl | rfl | rfl | rfl <;> simp
    · have e15 : (15#32 : BitVec 32).getLsbD i = false := by
        rw [BitVec.getLsbD]
        apply Nat.testBit_lt_two_pow
        calc (15#32 : BitVec 32).toNat < 2 ^ 4 := by decide
          _ ≤ 2 ^ i := Nat.pow_le_pow_right (by omega) (by omega)
      rw [e15]; simp [h, show 4 + (i - 4) = i from by omega, hi]
  have hq : (bv8 b >>> 4).toNat < 2 ^ (32 - 4) := by
    rw [BitVec.toNat_ushiftRight, Nat.shiftRight_eq_div_pow, hb]
    have := b.toNat_lt; omega
  rw [show (8 : Nat) = 4 + 4 from rfl, shn_add]
  conv => lhs; rw [h1]
  rw [← BitVec.xor_assoc, shn_xor 4 _ ((bv8 b >>> 4) <<< 4), shn_shl 4 _ (by omega) hq]


/-- Four bytes of a word, lowest first, and back. -/
def bytes (r : BitVec 32) : List UInt8 :=
  [UInt8.ofNat r.toNat, UInt8.ofNat (r.toNat / 256), UInt8.ofNat (r.toNat / 65536), UInt8.ofNat (r.toNat / 16777216)]
def le4 (a b c d : UInt8) : BitVec 32 := BitVec.ofNat 32 (a.toNat + 256 * b.toNat + 65536 * c.toNat + 16777216 * d.toNat)
def num : List UInt8 → BitVec 32
  | [a, b, c, d] => le4 a b c d
  | _ => 0#32

theorem num_bytes (r : BitVec 32) : num (bytes r) = r := by
  apply BitVec.eq_of_toNat_eq
  have := r.isLt
  simp [num, bytes, le4, BitVec.toNat_ofNat]
  try omega

theorem bytes_le4 (a b c d : UInt8) : bytes (le4 a b c d) = [a, b, c, d] := by
  have ha := a.toNat_lt; have hb := b.toNat_lt; have hc := c.toNat_lt; have hd := d.toNat_lt
  have e : (le4 a b c d).toNat = a.toNat + 256 * b.toNat + 65536 * c.toNat + 16777216 * d.toNat := by
    unfold le4; rw [BitVec.toNat_ofNat]; omega
  unfold bytes
  rw [e]
  simp only [List.cons.injEq, and_true]
  refine ⟨?_, ?_, ?_, ?_⟩ <;> (apply UInt8.toNat_inj.1; simp; try omega)

theorem bytes_length (r : BitVec 32) : (bytes r).length = 4 := rfl
theorem bytes_num (l : List UInt8) (h : l.length = 4) : bytes (num l) = l := by
  match l, h with
  | [a, b, c, d], _ => exact bytes_le4 a b c d
theorem bytes_inj {r t : BitVec 32} (h : bytes r = bytes t) : r = t := by rw [← num_bytes r, ← num_bytes t, h]

theorem bv8_toNat (b : UInt8) : (bv8 b).toNat = b.toNat := by
  unfold bv8; rw [BitVec.toNat_ofNat]; have := b.toNat_lt; omega

theorem le4_xor (a b c d : UInt8) : le4 a b c d = bv8 a ^^^ ((bv8 b <<< 8) ^^^ ((bv8 c <<< 16) ^^^ (bv8 d <<< 24))) := by
  have ha := a.toNat_lt; have hb := b.toNat_lt; have hc := c.toNat_lt; have hd := d.toNat_lt
  have hx : ∀ (k x y : Nat), y < 2 ^ k → y ^^^ (x * 2 ^ k) = y + x * 2 ^ k := by
    intro k x y hy
    have e : y + x * 2 ^ k = x * 2 ^ k ||| y := by
      rw [Nat.mul_comm, ← Nat.two_pow_add_eq_or_of_lt hy]; omega
    rw [e]
    apply Nat.eq_of_testBit_eq
    intro i
    rw [Nat.testBit_xor, Nat.testBit_or, Nat.testBit_mul_two_pow]
    by_cases hi : k ≤ i
    · have : y.testBit i = false := Nat.testBit_lt_two_pow (Nat.lt_of_lt_of_le hy (Nat.pow_le_pow_right (by omega) hi))
      simp [this]
    · simp [hi]
  apply BitVec.eq_of_toNat_eq
  simp only [le4, BitVec.toNat_xor, BitVec.toNat_shiftLeft, bv8_toNat, BitVec.toNat_ofNat, Nat.shiftLeft_eq]
  rw [Nat.mod_eq_of_lt (by omega), Nat.mod_eq_of_lt (a := b.toNat * 2 ^ 8) (by omega), Nat.mod_eq_of_lt (a := c.toNat * 2 ^ 16) (by omega), Nat.mod_eq_of_lt (a := d.toNat * 2 ^ 24) (by omega)]
  have e1 : c.toNat * 2 ^ 16 ^^^ d.toNat * 2 ^ 24 = (c.toNat + 256 * d.toNat) * 2 ^ 16 := by
    have := hx 24 d.toNat (c.toNat * 2 ^ 16) (by omega)
    rw [this]; omega
  have e2 : b.toNat * 2 ^ 8 ^^^ (c.toNat + 256 * d.toNat) * 2 ^ 16 = (b.toNat + 256 * c.toNat + 65536 * d.toNat) * 2 ^ 8 := by
    have := hx 16 (c.toNat + 256 * d.toNat) (b.toNat * 2 ^ 8) (by omega)
    rw [this]; omega
  have e3 := hx 8 (b.toNat + 256 * c.toNat + 65536 * d.toNat) a.toNat (by omega)
  rw [e1, e2, e3]; omega

/-- Four bytes at once. -/
theorem run_four (x : BitVec 32) (a b c d : UInt8) : run x [a, b, c, d] = shn 32 (x ^^^ le4 a b c d) := by
  have small : ∀ (u : UInt8) (k : Nat), k ≤ 24 → shn k (bv8 u <<< k) = bv8 u := by
    intro u k hk
    apply shn_shl k _ (by omega)
    rw [bv8_toNat]
    have := u.toNat_lt
    calc u.toNat < 2 ^ 8 := by omega
      _ ≤ 2 ^ (32 - k) := Nat.pow_le_pow_right (by omega) (by omega)
  have e : ∀ (y : BitVec 32) (u : UInt8) (k : Nat), k ≤ 24 → shn k y ^^^ bv8 u = shn k (y ^^^ (bv8 u <<< k)) := by
    intro y u k hk; rw [shn_xor, small u k hk]
  show shn 8 (shn 8 (shn 8 (shn 8 (x ^^^ bv8 a) ^^^ bv8 b) ^^^ bv8 c) ^^^ bv8 d) = _
  rw [e _ b 8 (by omega), ← shn_add, e _ c 16 (by omega), ← shn_add, e _ d 24 (by omega), ← shn_add, le4_xor]
  simp only [BitVec.xor_assoc]

/-- A text is valid where its last four bytes are the sum of the others: where the register behind it is one number. -/
theorem run_sealed (l : List UInt8) (a b c d : UInt8) (x : BitVec 32) :
    run x (l ++ [a, b, c, d]) = shn 32 (BitVec.allOnes 32) ↔ le4 a b c d = ~~~ run x l := by
  rw [run_append, run_four]
  have hn : ∀ y : BitVec 32, y ^^^ ~~~ y = BitVec.allOnes 32 := by
    intro y; apply BitVec.eq_of_getLsbD_eq; intro i hi; rw [BitVec.getLsbD_xor, BitVec.getLsbD_not, BitVec.getLsbD_allOnes]; cases y.getLsbD i <;> simp [hi]
  constructor
  · intro h
    have h1 := shn_inj2 32 h
    have h2 := hn (run x l)
    rw [← h1] at h2
    have h3 : run x l ^^^ (run x l ^^^ ~~~ run x l) = run x l ^^^ (run x l ^^^ le4 a b c d) := by rw [h2]
    rw [← BitVec.xor_assoc, ← BitVec.xor_assoc, BitVec.xor_self, BitVec.zero_xor, BitVec.zero_xor] at h3
    exact h3.symm
  · intro h; rw [h, hn]

/-- Exclusive or of a text and a mask that begins with it. -/
def xorL : List UInt8 → List UInt8 → List UInt8
  | [], _ => []
  | s, [] => s
  | a :: s, b :: m => (a ^^^ b) :: xorL s m

theorem xorL_length : ∀ s m, (xorL s m).length = s.length
  | [], m => by cases m <;> rfl
  | a :: s, [] => rfl
  | a :: s, b :: m => by simp [xorL, xorL_length s m]

theorem bv8_xor (a b : UInt8) : bv8 (a ^^^ b) = bv8 a ^^^ bv8 b := by
  apply BitVec.eq_of_toNat_eq
  simp only [BitVec.toNat_xor, bv8_toNat, UInt8.toNat_xor]

/-- The register is linear in the text. -/
theorem run_xorL : ∀ (s m : List UInt8) (c d : BitVec 32), s.length = m.length → run (c ^^^ d) (xorL s m) = run c s ^^^ run d m
  | [], [], c, d, _ => by simp [run, xorL]
  | a :: s, b :: m, c, d, h => by
    show run (shn 8 ((c ^^^ d) ^^^ bv8 (a ^^^ b))) (xorL s m) = run (shn 8 (c ^^^ bv8 a)) s ^^^ run (shn 8 (d ^^^ bv8 b)) m
    rw [bv8_xor, bv_lc, shn_xor]
    exact run_xorL s m _ _ (by simpa using h)
  | [], b :: m, c, d, h => by simp at h
  | a :: s, [], c, d, h => by simp at h

theorem sum_xor3 (a b c : List UInt8) (h1 : a.length = b.length) (h2 : b.length = c.length) :
    sum (xorL (xorL a b) c) = (sum a ^^^ sum b) ^^^ sum c := by
  unfold sum upd
  have e : (~~~ 0#32 : BitVec 32) = (~~~ 0#32 ^^^ ~~~ 0#32) ^^^ ~~~ 0#32 := by decide
  conv => lhs; rw [e]
  rw [run_xorL _ _ _ _ (by rw [xorL_length, h1, h2]), run_xorL _ _ _ _ h1]
  generalize run (~~~ 0#32) a = x
  generalize run (~~~ 0#32) b = y
  generalize run (~~~ 0#32) c = z
  apply BitVec.eq_of_getLsbD_eq; intro i hi
  simp only [BitVec.getLsbD_not, BitVec.getLsbD_xor, hi, decide_true, Bool.true_and]
  cases x.getLsbD i <;> cases y.getLsbD i <;> cases z.getLsbD i <;> rfl

/-- A burst of four bytes changes the register. -/
theorem run_burst (x : BitVec 32) (pre post : List UInt8) (a b c d p q r s : UInt8) (hm : le4 p q r s ≠ 0#32) :
    run x (pre ++ ([a ^^^ p, b ^^^ q, c ^^^ r, d ^^^ s] ++ post)) ≠ run x (pre ++ ([a, b, c, d] ++ post)) := by
  have e0 : ([a ^^^ p, b ^^^ q, c ^^^ r, d ^^^ s] : List UInt8) = xorL [a, b, c, d] [p, q, r, s] := rfl
  rw [run_append, run_append, run_append, run_append, e0]
  generalize run x pre = y
  have e1 : run y (xorL [a, b, c, d] [p, q, r, s]) = run y [a, b, c, d] ^^^ run 0#32 [p, q, r, s] := by
    have := run_xorL [a, b, c, d] [p, q, r, s] y 0#32 rfl
    rw [BitVec.xor_zero] at this; exact this
  rw [e1, run_xor]
  intro h
  have h2 : shn (8 * post.length) (run 0#32 [p, q, r, s]) = 0#32 := by
    have h3 : run (run y [a, b, c, d]) post ^^^ (run (run y [a, b, c, d]) post ^^^ shn (8 * post.length) (run 0#32 [p, q, r, s])) = run (run y [a, b, c, d]) post ^^^ run (run y [a, b, c, d]) post := by rw [h]
    rw [← BitVec.xor_assoc, BitVec.xor_self, BitVec.zero_xor] at h3
    exact h3
  have h4 := shn_inj _ h2
  rw [run_four, BitVec.zero_xor] at h4
  exact hm (shn_inj _ h4)

end Go.Proofs.Ytlpejbmckidacaa.Crc

/-
  Plain mathematics of the checksum: the shift register of CRC-32C over bit vectors, and bytes of a word. No walk, no condition. Walks: the table of the checksum, and Update. Condition: texts that can be in memory. Walks: Sum, Bytes and Seal of the checksum. Condition: texts that can be in memory. Walks: Number and Open of the checksum. Condition: texts of at most 1000 bytes.
-/
import Derived.Test.YtjpkdhnponcciaaGreatDoorCBA
import Derived.WalkSpells
import Derived.WalkLawsBesides
import Derived.Lib.Hide
import Derived.Deep.QuietTactic
import Derived.BigQuiet
import Derived.RegionTactic
import Derived.ChangeAlike
import Derived.Lib.QuietBelow
namespace Go.Proofs.YtjpkdhnponcciaaGreatDoor

section
def Crc.poly : BitVec 32 := 0x82f63b78#32
def Crc.sh (c : BitVec 32) : BitVec 32 := if c.getLsbD 0 then (c >>> 1) ^^^ poly else c >>> 1
def Crc.shn : Nat → BitVec 32 → BitVec 32
 | 0, c => c
 | n + 1, c => shn n (sh c)

theorem Crc.sh_xor (a b : BitVec 32) : sh (a ^^^ b) = sh a ^^^ sh b := by
 unfold sh
 rw [BitVec.getLsbD_xor, BitVec.ushiftRight_xor_distrib]
 cases a.getLsbD 0 <;> cases b.getLsbD 0 <;> simp
 · rw [BitVec.xor_assoc]
 · rw [BitVec.xor_assoc, BitVec.xor_assoc, BitVec.xor_comm poly]
 · rw [BitVec.xor_assoc, BitVec.xor_comm poly, BitVec.xor_assoc, BitVec.xor_self, BitVec.xor_zero]

theorem Crc.shn_xor (n : Nat) : ∀ a b : BitVec 32, shn n (a ^^^ b) = shn n a ^^^ shn n b := by
 induction n with
 | zero => intro a b; rfl
 | succ n ih => intro a b; simp only [shn]; rw [sh_xor, ih]

theorem Crc.shn_add (m n : Nat) : ∀ c, shn (m + n) c = shn n (shn m c) := by
 induction m with
 | zero => intro c; simp [shn]
 | succ m ih => intro c; rw [Nat.succ_add]; simp only [shn]; exact ih _

theorem Crc.shn_succ' (n : Nat) (c : BitVec 32) : shn (n + 1) c = sh (shn n c) := by
 rw [shn_add]; rfl

theorem Crc.sh_zero : sh 0#32 = 0#32 := by decide
theorem Crc.shn_zero (n : Nat) : shn n 0#32 = 0#32 := by
 induction n with
 | zero => rfl
 | succ n ih => simp only [shn]; rw [sh_zero, ih]

theorem Crc.sh_inj {c : BitVec 32} (h : sh c = 0#32) : c = 0#32 := by
 unfold sh at h
 split at h
 · rename_i h0
   have h31 := congrArg (fun x => BitVec.getLsbD x 31) h
   simp [poly] at h31
 · rename_i h0
   have h0' : c.toNat % 2 = 0 := by
     simp [BitVec.getLsbD] at h0; omega
   have h1 := congrArg BitVec.toNat h
   simp [BitVec.toNat_ushiftRight, Nat.shiftRight_eq_div_pow] at h1
   apply BitVec.eq_of_toNat_eq
   simp; omega

theorem Crc.shn_inj (n : Nat) : ∀ {c : BitVec 32}, shn n c = 0#32 → c = 0#32 := by
 induction n with
 | zero => intro c h; exact h
 | succ n ih => intro c h; exact sh_inj (ih h)

theorem Crc.shn_inj2 (n : Nat) {a b : BitVec 32} (h : shn n a = shn n b) : a = b := by
 have : shn n (a ^^^ b) = 0#32 := by rw [shn_xor, h, BitVec.xor_self]
 have h2 := shn_inj n this
 have h3 : (a ^^^ b) ^^^ b = 0#32 ^^^ b := by rw [h2]
 rw [BitVec.xor_assoc, BitVec.xor_self, BitVec.xor_zero, BitVec.zero_xor] at h3
 exact h3

/-- A register whose lowest bits are free is only moved. -/
theorem Crc.sh_shl (x : BitVec 32) (h : x.toNat < 2147483648) : sh (x <<< 1) = x := by
 unfold sh
 rw [if_neg (by simp)]
 apply BitVec.eq_of_toNat_eq
 simp [Nat.shiftRight_eq_div_pow, Nat.shiftLeft_eq]
 omega

theorem Crc.shn_shl (k : Nat) : ∀ (x : BitVec 32), k ≤ 32 → x.toNat < 2 ^ (32 - k) → shn k (x <<< k) = x := by
 induction k with
 | zero => intro x _ _; simp [shn]
 | succ k ih =>
   intro x hk h
   have e : x <<< (k + 1) = (x <<< k) <<< 1 := by rw [BitVec.shiftLeft_add]
   have hp : (2 : Nat) ^ (32 - k) = 2 * 2 ^ (32 - (k + 1)) := by
     rw [show 32 - k = (32 - (k + 1)) + 1 from by omega, Nat.pow_succ]; omega
   have hk2 : (2 : Nat) ^ k * 2 ^ (32 - (k + 1)) = 2147483648 := by
     rw [← Nat.pow_add, show k + (32 - (k + 1)) = 31 from by omega]
   have hlt : (x <<< k).toNat < 2147483648 := by
     rw [BitVec.toNat_shiftLeft, Nat.shiftLeft_eq]
     have : x.toNat * 2 ^ k < 2147483648 := by
       rw [Nat.mul_comm, ← hk2]
       exact Nat.mul_lt_mul_of_pos_left h (Nat.two_pow_pos k)
     omega
   rw [e]; simp only [shn]
   rw [sh_shl _ hlt]
   exact ih x (by omega) (by omega)

/-- The register behind some bytes. -/
def Crc.bv8 (b : UInt8) : BitVec 32 := BitVec.ofNat 32 b.toNat
def Crc.run (c : BitVec 32) (l : List UInt8) : BitVec 32 := l.foldl (fun c b => shn 8 (c ^^^ bv8 b)) c
def Crc.upd (s : BitVec 32) (l : List UInt8) : BitVec 32 := ~~~ run (~~~ s) l
def Crc.sum (l : List UInt8) : BitVec 32 := upd 0#32 l

theorem Crc.run_append (c : BitVec 32) (l m : List UInt8) : run c (l ++ m) = run (run c l) m := by
 unfold run; rw [List.foldl_append]
theorem Crc.run_snoc (c : BitVec 32) (l : List UInt8) (b : UInt8) : run c (l ++ [b]) = shn 8 (run c l ^^^ bv8 b) := by
 rw [run_append]; rfl

theorem Crc.bv_lc (a b c d : BitVec 32) : (a ^^^ b) ^^^ (c ^^^ d) = (a ^^^ c) ^^^ (b ^^^ d) := by
 rw [BitVec.xor_assoc, BitVec.xor_assoc]; congr 1
 rw [← BitVec.xor_assoc, BitVec.xor_comm b c, BitVec.xor_assoc]

theorem Crc.run_xor (l : List UInt8) : ∀ c d : BitVec 32, run (c ^^^ d) l = run c l ^^^ shn (8 * l.length) d := by
 induction l with
 | nil => intro c d; simp [run, shn]
 | cons b l ih =>
   intro c d
   show run (shn 8 ((c ^^^ d) ^^^ bv8 b)) l = run (shn 8 (c ^^^ bv8 b)) l ^^^ _
   have : (c ^^^ d) ^^^ bv8 b = (c ^^^ bv8 b) ^^^ d := by
     rw [BitVec.xor_assoc, BitVec.xor_comm d, ← BitVec.xor_assoc]
   rw [this, shn_xor, ih, ← shn_add]
   rw [show 8 + 8 * l.length = 8 * (b :: l).length from by simp; omega]

/-- The table of sixteen registers: a register is moved four bits by one look. -/
theorem Crc.quarter (x b : BitVec 32) (hb : b.toNat < 16) : shn 4 (x ^^^ b) = (x >>> 4) ^^^ shn 4 ((x ^^^ b) &&& 15#32) := by
 have h1 : x ^^^ b = ((x >>> 4) <<< 4) ^^^ ((x ^^^ b) &&& 15#32) := by
   apply BitVec.eq_of_getLsbD_eq
   intro i hi
   simp only [BitVec.getLsbD_xor, BitVec.getLsbD_shiftLeft, BitVec.getLsbD_ushiftRight, BitVec.getLsbD_and]
   have hb4 : ∀ j, 4 ≤ j → b.getLsbD j = false := by
     intro j hj
     rw [BitVec.getLsbD]
     apply Nat.testBit_lt_two_pow
     calc b.toNat < 2 ^ 4 := hb
       _ ≤ 2 ^ j := Nat.pow_le_pow_right (by omega) hj
   by_cases h : i < 4
   · have : i = 0 ∨ i = 1 ∨ i = 2 ∨ i = 3 := by omega
     rcases this with rfl | rfl | rfl | rfl <;> simp
   · have e15 : (15#32 : BitVec 32).getLsbD i = false := by
       rw [BitVec.getLsbD]
       apply Nat.testBit_lt_two_pow
       calc (15#32 : BitVec 32).toNat < 2 ^ 4 := by decide
         _ ≤ 2 ^ i := Nat.pow_le_pow_right (by omega) (by omega)
     rw [hb4 i (by omega), e15]
     simp [h, show 4 + (i - 4) = i from by omega, hi]
 have hq : (x >>> 4).toNat < 2 ^ (32 - 4) := by
   rw [BitVec.toNat_ushiftRight, Nat.shiftRight_eq_div_pow]
   have := x.isLt; omega
 conv => lhs; rw [h1]
 rw [shn_xor, shn_shl 4 _ (by omega) hq]

/-- A byte is two quarters. -/
theorem Crc.byte_two (x : BitVec 32) (b : UInt8) :
   shn 8 (x ^^^ bv8 b) = shn 4 (shn 4 (x ^^^ (bv8 b &&& 15#32)) ^^^ (bv8 b >>> 4)) := by
 have hb : (bv8 b).toNat = b.toNat := by unfold bv8; rw [BitVec.toNat_ofNat]; have := b.toNat_lt; omega
 have h1 : bv8 b = (bv8 b &&& 15#32) ^^^ ((bv8 b >>> 4) <<< 4) := by
   apply BitVec.eq_of_getLsbD_eq
   intro i hi
   simp only [BitVec.getLsbD_xor, BitVec.getLsbD_shiftLeft, BitVec.getLsbD_ushiftRight, BitVec.getLsbD_and]
   by_cases h : i < 4
   · have : i = 0 ∨ i = 1 ∨ i = 2 ∨ i = 3 := by omega
     rcases this with rfl | rfl | rfl | rfl <;> simp
   · have e15 : (15#32 : BitVec 32).getLsbD i = false := by
       rw [BitVec.getLsbD]
       apply Nat.testBit_lt_two_pow
       calc (15#32 : BitVec 32).toNat < 2 ^ 4 := by decide
         _ ≤ 2 ^ i := Nat.pow_le_pow_right (by omega) (by omega)
     rw [e15]; simp [h, show 4 + (i - 4) = i from by omega, hi]
 have hq : (bv8 b >>> 4).toNat < 2 ^ (32 - 4) := by
   rw [BitVec.toNat_ushiftRight, Nat.shiftRight_eq_div_pow, hb]
   have := b.toNat_lt; omega
 rw [show (8 : Nat) = 4 + 4 from rfl, shn_add]
 conv => lhs; rw [h1]
 rw [← BitVec.xor_assoc, shn_xor 4 _ ((bv8 b >>> 4) <<< 4), shn_shl 4 _ (by omega) hq]


/-- Four bytes of a word, lowest first, and back. -/
def Crc.bytes (r : BitVec 32) : List UInt8 :=
 [UInt8.ofNat r.toNat, UInt8.ofNat (r.toNat / 256), UInt8.ofNat (r.toNat / 65536), UInt8.ofNat (r.toNat / 16777216)]
def Crc.le4 (a b c d : UInt8) : BitVec 32 := BitVec.ofNat 32 (a.toNat + 256 * b.toNat + 65536 * c.toNat + 16777216 * d.toNat)
def Crc.num : List UInt8 → BitVec 32
 | [a, b, c, d] => le4 a b c d
 | _ => 0#32

theorem Crc.num_bytes (r : BitVec 32) : num (bytes r) = r := by
 apply BitVec.eq_of_toNat_eq
 have := r.isLt
 simp [num, bytes, le4, BitVec.toNat_ofNat]
 try omega

theorem Crc.bytes_le4 (a b c d : UInt8) : bytes (le4 a b c d) = [a, b, c, d] := by
 have ha := a.toNat_lt; have hb := b.toNat_lt; have hc := c.toNat_lt; have hd := d.toNat_lt
 have e : (le4 a b c d).toNat = a.toNat + 256 * b.toNat + 65536 * c.toNat + 16777216 * d.toNat := by
   unfold le4; rw [BitVec.toNat_ofNat]; omega
 unfold bytes
 rw [e]
 simp only [List.cons.injEq, and_true]
 refine ⟨?_, ?_, ?_, ?_⟩ <;> (apply UInt8.toNat_inj.1; simp; try omega)

theorem Crc.bytes_length (r : BitVec 32) : (bytes r).length = 4 := rfl
theorem Crc.bytes_num (l : List UInt8) (h : l.length = 4) : bytes (num l) = l := by
 match l, h with
 | [a, b, c, d], _ => exact bytes_le4 a b c d
theorem Crc.bytes_inj {r t : BitVec 32} (h : bytes r = bytes t) : r = t := by rw [← num_bytes r, ← num_bytes t, h]

theorem Crc.bv8_toNat (b : UInt8) : (bv8 b).toNat = b.toNat := by
 unfold bv8; rw [BitVec.toNat_ofNat]; have := b.toNat_lt; omega

theorem Crc.le4_xor (a b c d : UInt8) : le4 a b c d = bv8 a ^^^ ((bv8 b <<< 8) ^^^ ((bv8 c <<< 16) ^^^ (bv8 d <<< 24))) := by
 have ha := a.toNat_lt; have hb := b.toNat_lt; have hc := c.toNat_lt; have hd := d.toNat_lt
 have hx : ∀ (k x y : Nat), y < 2 ^ k → y ^^^ (x * 2 ^ k) = y + x * 2 ^ k := by
   intro k x y hy
   have e : y + x * 2 ^ k = x * 2 ^ k ||| y := by
     rw [Nat.mul_comm, ← Nat.two_pow_add_eq_or_of_lt hy]; omega
   rw [e]
   apply Nat.eq_of_testBit_eq
   intro i
   rw [Nat.testBit_xor, Nat.testBit_or, Nat.testBit_mul_two_pow]
   by_cases hi : k ≤ i
   · have : y.testBit i = false := Nat.testBit_lt_two_pow (Nat.lt_of_lt_of_le hy (Nat.pow_le_pow_right (by omega) hi))
     simp [this]
   · simp [hi]
 apply BitVec.eq_of_toNat_eq
 simp only [le4, BitVec.toNat_xor, BitVec.toNat_shiftLeft, bv8_toNat, BitVec.toNat_ofNat, Nat.shiftLeft_eq]
 rw [Nat.mod_eq_of_lt (by omega), Nat.mod_eq_of_lt (a := b.toNat * 2 ^ 8) (by omega), Nat.mod_eq_of_lt (a := c.toNat * 2 ^ 16) (by omega), Nat.mod_eq_of_lt (a := d.toNat * 2 ^ 24) (by omega)]
 have e1 : c.toNat * 2 ^ 16 ^^^ d.toNat * 2 ^ 24 = (c.toNat + 256 * d.toNat) * 2 ^ 16 := by
   have := hx 24 d.toNat (c.toNat * 2 ^ 16) (by omega)
   rw [this]; omega
 have e2 : b.toNat * 2 ^ 8 ^^^ (c.toNat + 256 * d.toNat) * 2 ^ 16 = (b.toNat + 256 * c.toNat + 65536 * d.toNat) * 2 ^ 8 := by
   have := hx 16 (c.toNat + 256 * d.toNat) (b.toNat * 2 ^ 8) (by omega)
   rw [this]; omega
 have e3 := hx 8 (b.toNat + 256 * c.toNat + 65536 * d.toNat) a.toNat (by omega)
 rw [e1, e2, e3]; omega

/-- Four bytes at once. -/
theorem Crc.run_four (x : BitVec 32) (a b c d : UInt8) : run x [a, b, c, d] = shn 32 (x ^^^ le4 a b c d) := by
 have small : ∀ (u : UInt8) (k : Nat), k ≤ 24 → shn k (bv8 u <<< k) = bv8 u := by
   intro u k hk
   apply shn_shl k _ (by omega)
   rw [bv8_toNat]
   have := u.toNat_lt
   calc u.toNat < 2 ^ 8 := by omega
     _ ≤ 2 ^ (32 - k) := Nat.pow_le_pow_right (by omega) (by omega)
 have e : ∀ (y : BitVec 32) (u : UInt8) (k : Nat), k ≤ 24 → shn k y ^^^ bv8 u = shn k (y ^^^ (bv8 u <<< k)) := by
   intro y u k hk; rw [shn_xor, small u k hk]
 show shn 8 (shn 8 (shn 8 (shn 8 (x ^^^ bv8 a) ^^^ bv8 b) ^^^ bv8 c) ^^^ bv8 d) = _
 rw [e _ b 8 (by omega), ← shn_add, e _ c 16 (by omega), ← shn_add, e _ d 24 (by omega), ← shn_add, le4_xor]
 simp only [BitVec.xor_assoc]

/-- A text is valid where its last four bytes are the sum of the others: where the register behind it is one number. -/
theorem Crc.run_sealed (l : List UInt8) (a b c d : UInt8) (x : BitVec 32) :
   run x (l ++ [a, b, c, d]) = shn 32 (BitVec.allOnes 32) ↔ le4 a b c d = ~~~ run x l := by
 rw [run_append, run_four]
 have hn : ∀ y : BitVec 32, y ^^^ ~~~ y = BitVec.allOnes 32 := by
   intro y; apply BitVec.eq_of_getLsbD_eq; intro i hi; rw [BitVec.getLsbD_xor, BitVec.getLsbD_not, BitVec.getLsbD_allOnes]; cases y.getLsbD i <;> simp [hi]
 constructor
 · intro h
   have h1 := shn_inj2 32 h
   have h2 := hn (run x l)
   rw [← h1] at h2
   have h3 : run x l ^^^ (run x l ^^^ ~~~ run x l) = run x l ^^^ (run x l ^^^ le4 a b c d) := by rw [h2]
   rw [← BitVec.xor_assoc, ← BitVec.xor_assoc, BitVec.xor_self, BitVec.zero_xor, BitVec.zero_xor] at h3
   exact h3.symm
 · intro h; rw [h, hn]

theorem Crc.bv8_xor (a b : UInt8) : bv8 (a ^^^ b) = bv8 a ^^^ bv8 b := by
 apply BitVec.eq_of_toNat_eq
 simp only [BitVec.toNat_xor, bv8_toNat, UInt8.toNat_xor]
end

section
open Go.RowKit

def Cs.N (r : BitVec 32) : Int := (r.toNat : Int)
def Cs.B (x : Int) : BitVec 32 := BitVec.ofInt 32 x
theorem Cs.N_lo (r) : 0 ≤ N r := by unfold N; omega
theorem Cs.N_hi (r) : N r ≤ 4294967295 := by unfold N; have := r.isLt; omega
theorem Cs.B_N (r) : B (N r) = r := by unfold B N; simp
theorem Cs.N_B (x : Int) (h0 : 0 ≤ x) (h1 : x ≤ 4294967295) : N (B x) = x := by
 unfold B N; rw [BitVec.toNat_ofInt]; omega
theorem Cs.N_inj {r t} (h : N r = N t) : r = t := by rw [← B_N r, ← B_N t, h]
theorem Cs.wrapN (n : Nat) (h : n < 4294967296) : IntKind.u32.wrap (n : Int) = (n : Int) := by rw [IntKind.wrap_u32]; omega
theorem Cs.bits_xor (a b : Int) : bits .xor .u32 a b = N (B a ^^^ B b) := by
 simp only [bits]; rw [wrapN _ (BitVec.isLt _)]; rfl
theorem Cs.bits_and (a b : Int) : bits .and .u32 a b = N (B a &&& B b) := by
 simp only [bits]; rw [wrapN _ (BitVec.isLt _)]; rfl
theorem Cs.B_div (x : Int) (k : Nat) (h0 : 0 ≤ x) (h1 : x ≤ 4294967295) : B (x / (2 ^ k : Nat)) = B x >>> k := by
 apply BitVec.eq_of_toNat_eq
 obtain ⟨n, rfl⟩ := Int.eq_ofNat_of_zero_le h0
 unfold B
 rw [BitVec.toNat_ushiftRight, Nat.shiftRight_eq_div_pow, ← Int.natCast_ediv]
 simp only [BitVec.ofInt_natCast, BitVec.toNat_ofNat]
 rw [Nat.mod_eq_of_lt (a := n) (by omega), Nat.mod_eq_of_lt]
 exact Nat.lt_of_le_of_lt (Nat.div_le_self _ _) (by omega)
theorem Cs.B_odd (x : Int) (h0 : 0 ≤ x) (h1 : x ≤ 4294967295) : (B x).getLsbD 0 = decide (x % 2 = 1) := by
 obtain ⟨n, rfl⟩ := Int.eq_ofNat_of_zero_le h0
 unfold B
 rw [BitVec.getLsbD, BitVec.ofInt_natCast, BitVec.toNat_ofNat, Nat.testBit_zero]
 rw [Bool.eq_iff_iff]; simp; omega

theorem Cs.sh_odd (x : Int) (h0 : 0 ≤ x) (h1 : x ≤ 4294967295) (ho : x % 2 = 1) : bits .xor .u32 (x / 2) 2197175160 = N (Crc.sh (B x)) := by
 rw [bits_xor, show x / 2 = x / (2 ^ 1 : Nat) from rfl, B_div x 1 h0 h1]
 unfold Crc.sh
 rw [if_pos (by rw [B_odd x h0 h1]; simpa using ho)]; rfl
theorem Cs.sh_even (x : Int) (h0 : 0 ≤ x) (h1 : x ≤ 4294967295) (ho : ¬ x % 2 = 1) : x / 2 = N (Crc.sh (B x)) := by
 unfold Crc.sh
 rw [if_neg (by rw [B_odd x h0 h1]; simpa using ho), ← B_div x 1 h0 h1, N_B _ (by omega) (by omega)]; rfl

theorem Cs.ret_int {k : IntKind} {a b : Int} (h : a = b) : Ending.returned (.int k a) = .returned (.int k b) := by rw [h]

/-- shift of the program: n rounds. -/
theorem Cs.shift_odd_and (x : Int) (h0 : 0 ≤ x) (h1 : x ≤ 4294967295) : bits .and .u32 x 1 = x % 2 := by
 obtain ⟨n, rfl⟩ := Int.eq_ofNat_of_zero_le h0
 rw [u32_and _ _ (by omega) (by omega) (by omega) (by omega)]
 simp only [Int.toNat_natCast]
 rw [show (1 : Int).toNat = 1 from rfl, nat_mask1]; omega

set_option maxHeartbeats 400000 in
theorem Cs.shift_any (x k : Int) (w : World) (h0 : 0 ≤ x) (h1 : x ≤ 4294967295) (hk0 : 0 ≤ k) (hk : k ≤ 100) :
   Calls Tryz.prog 246 #[.int .u32 x, .int .i64 k] w fun e w' => e = .returned (.int .u32 (N (Crc.shn k.toNat (B x)))) ∧ w = w' := by
 obtain ⟨K, rfl⟩ := Int.eq_ofNat_of_zero_le hk0
 go_enter Tryz.func246, Tryz.ntmps246
 go_wp2
 go_loop [0, 6] (fun s i => ∃ (j : Nat) (r : Int), j ≤ K ∧ 0 ≤ r ∧ r ≤ 4294967295 ∧ i = .int .i64 j ∧ s = .int .u32 r ∧ r = N (Crc.shn j (B x))) (fun _ i => K - (intOf i).toNat)
 case atStart => exact ⟨0, x, by omega, h0, h1, rfl, rfl, by rw [Crc.shn, N_B x h0 h1]⟩
 case round =>
   obtain ⟨j, r, hj, hr0, hr1, rfl, rfl, hr⟩ := hrel
   have HR := Lib.hid hr
   clear hr
   by_cases hlt : j < K
   · by_cases ho : r % 2 = 1
     · have hand := shift_odd_and r hr0 hr1
       have H := Lib.hid (sh_odd r hr0 hr1 ho)
       go_wp2
       go_round
       case rel => exact ⟨j + 1, _, by omega, by rw [H.out]; exact N_lo _, by rw [H.out]; exact N_hi _, by go_num, rfl, by rw [H.out, Crc.shn_succ', HR.out, B_N]⟩
       case measure => simp [intOf]; omega
     · have hand := shift_odd_and r hr0 hr1
       have H := Lib.hid (sh_even r hr0 hr1 ho)
       go_wp2
       go_round
       case rel => exact ⟨j + 1, _, by omega, by omega, by omega, by go_num, rfl, by rw [H.out, Crc.shn_succ', HR.out, B_N]⟩
       case measure => simp [intOf]; omega
   · have hjK : K = j := by omega
     subst hjK
     go_wp2
     go_ret
     exact ⟨ret_int HR.out, rfl⟩

/-- The table of sixteen registers, filled up to j. -/
def Cs.tabA (j : Nat) : Array Value := ((List.range 16).map fun i => Value.int .u32 (if i < j then N (Crc.shn 4 (B i)) else 0)).toArray
theorem Cs.tabA_size (j : Nat) : (tabA j).size = 16 := by simp [tabA]
theorem Cs.tabA_get (j i : Nat) (h : i < 16) : (tabA j)[i]? = some (.int .u32 (if i < j then N (Crc.shn 4 (B i)) else 0)) := by simp [tabA, h]
theorem Cs.tabA_set (j : Nat) : (tabA j).setIfInBounds j (.int .u32 (N (Crc.shn 4 (B j)))) = tabA (j + 1) := by
 apply Array.ext_getElem?
 intro i
 rw [Array.getElem?_setIfInBounds, tabA_size]
 by_cases hi : i < 16
 · rw [tabA_get _ _ hi, tabA_get _ _ hi]
   by_cases e : j = i
   · subst e; simp [hi]
   · rw [if_neg e]
     by_cases h2 : i < j
     · simp [h2, show i < j + 1 from by omega]
     · simp [h2, show ¬ i < j + 1 from by omega]
 · rw [Array.getElem?_eq_none (by rw [tabA_size]; omega), Array.getElem?_eq_none (by rw [tabA_size]; omega)]
   split <;> (try split) <;> first | rfl | omega

theorem Cs.heap_same {w : World} {a b : Nat} {o : Obj} (h : w.heap[a]? = some o) (e : a = b) : w.heap[b]? = some o := e ▸ h

theorem Cs.size40 : (Tryz.prog.info? 320).map (·.size) = some 16 := by kernel_rfl
theorem Cs.underlying40 : Tryz.prog.underlying 320 = some (.array 16 172) := by kernel_rfl

theorem Cs.tabA_one (j : Nat) : (tabA j).all (·.oneCell') = true := by simp [tabA, Value.oneCell']
set_option maxHeartbeats 400000 in
theorem Cs.table_any (w : World) :
   Calls Tryz.prog 200 #[] w fun e w' => e = .returned (.agg (tabA 16)) ∧ Below w.heap.size w w' := by
 go_enter Tryz.func200, Tryz.ntmps200
 go_wp2
 go_loopw [2, 3] (fun _ i wr => ∃ j : Nat, j ≤ 16 ∧ i = .int .i64 j ∧ wr.heap[w.heap.size]? = some (.cells (tabA 0) 320 (0, 0)) ∧ wr.heap[w.heap.size + 1]? = some (.cells (tabA j) 320 (0, 0)) ∧ Below w.heap.size w wr ∧ wr.heap.size = w.heap.size + 2) (fun _ i _ => 16 - (intOf i).toNat)
 case atStart => exact ⟨0, by omega, rfl, heap_alloc2_old _ _ _, heap_alloc2_new _ _ _, ((Below.refl _ _).alloc (by simp) _).alloc (by simp) _, by simp⟩
 case round =>
   obtain ⟨j, hj, rfl, hA, hB, hbel, hsz⟩ := hrel
   have HA := Lib.hid hA
   have HB := Lib.hid hB
   have HS := Lib.hid hsz
   clear hA hB hsz
   by_cases hlt : j < 16
   · have hcell : wr.cell? ⟨w.heap.size + 1, j, none⟩ = some (.int .u32 0) := by
       rw [cell_of_row _ _ _ _ _ _ HB.out, tabA_get _ _ hlt, if_neg (by omega)]
     have hfree : wr.frozen? ⟨w.heap.size + 1, j, none⟩ = false := frozen_of_row _ _ _ _ _ HB.out
     go_wp2_with (go_at_call 246; refine (shift_any _ _ _ (by omega) (by omega) (by omega) (by omega)).mono ?_; rintro e w' ⟨rfl, rfl⟩)
     go_roundw
     case rel => exact ⟨j + 1, by omega, by go_num, by rw [heap_setCell_other _ _ _ _ (by simp)]; exact HA.out, by rw [heap_setCell_same _ _ _ _ _ _ HB.out, tabA_set], hbel.setCell (by simp) _, by simp [World.setCell]; exact HS.out⟩
     case measure => simp [intOf]; omega
   · have hj16 : j = 16 := by omega
     subst hj16
     go_wp2_with (first | (refine wpList_load_row rfl _ _ rfl (w.heap.size + 1) rfl 320 (tabA 16) (0, 0) _ HB.out underlying40 rfl (by rw [size40, tabA_size]) ?_) | (refine wpList_store_row rfl _ _ _ rfl w.heap.size (tabA 16) rfl rfl 320 (tabA 0) HA.out (by rw [size40, tabA_size]) (by rw [tabA_size, tabA_size]) (tabA_one 16) ?_))
     exact bodyPost_ret (v := .agg (tabA 16)) (results_cell_row rfl _ _ w.heap.size 320 (tabA 16) (0, 0) _ rfl (setRow_heap _ _ _ _ _ _ HA.out) underlying40 rfl (by rw [size40, tabA_size])) rfl ⟨rfl, below_setRow hbel (by omega) _⟩

def Cs.stepI (r b : Int) : Int := N ((B r >>> 4) ^^^ Crc.shn 4 ((B r ^^^ B b) &&& 15#32))

set_option maxHeartbeats 400000 in
theorem Cs.step_any (b r : Int) (p : Addr) (g : Nat) (w : World) (h0 : 0 ≤ r) (h1 : r ≤ 4294967295)
   (hx : w.cell? p = some (.int .u32 r)) (hfz : w.frozen? p = false) (hg : w.heap[g]? = some (.cells (tabA 16) 320 (0, 0))) :
   Calls Tryz.prog 201 #[.int .u32 b, .pointer (some p), .pointer (some ⟨g, 0, none⟩)] w fun e w' => e = .returned (.tuple #[]) ∧ w' = (w.setCell p (.int .u32 (stepI r b))).drew := by
 have HG := Lib.hid hg
 clear hg
 have hi : ∃ i : Nat, i < 16 ∧ bits .and .u32 (bits .xor .u32 r b) 15 = (i : Int) ∧ ((B r ^^^ B b) &&& 15#32) = B i := by
   refine ⟨((B r ^^^ B b) &&& 15#32).toNat, ?_, ?_, ?_⟩
   · have : ((B r ^^^ B b) &&& 15#32).toNat ≤ (15#32 : BitVec 32).toNat := by rw [BitVec.toNat_and]; exact Nat.and_le_right
     have e : (15#32 : BitVec 32).toNat = 15 := rfl
     omega
   · rw [bits_and, bits_xor, B_N]; rfl
   · have e : ∀ v : BitVec 32, v = B (v.toNat : Int) := fun v => (B_N v).symm
     exact e _
 obtain ⟨i, hi16, hi2, hi3⟩ := hi
 have hcell : w.cell? ⟨g, i, none⟩ = some (.int .u32 (N (Crc.shn 4 (B i)))) := by
   rw [cell_of_row _ _ _ _ _ _ HG.out, tabA_get _ _ hi16, if_pos hi16]
 have HI := Lib.hid hi3
 clear hi3
 go_enter Tryz.func201, Tryz.ntmps201
 go_region
 go_end0
 refine ⟨rfl, ?_⟩
 rw [bits_xor, B_N, show r / 16 = r / (2 ^ 4 : Nat) from rfl, B_div r 4 h0 h1, ← HI.out]; rfl

/-- Two steps of four bits are one byte. -/
theorem Cs.step_two (c : BitVec 32) (b : UInt8) : stepI (stepI (N c) (bits .and .u32 (b.toNat : Int) 15)) ((b.toNat : Int) / 16) = N (Crc.shn 8 (c ^^^ Crc.bv8 b)) := by
 have hb := b.toNat_lt
 have e1 : B (b.toNat : Int) = Crc.bv8 b := by unfold B Crc.bv8; rw [BitVec.ofInt_natCast]
 have e2 : B ((b.toNat : Int) / 16) = Crc.bv8 b >>> 4 := by
   rw [show (b.toNat : Int) / 16 = (b.toNat : Int) / (2 ^ 4 : Nat) from rfl, B_div _ 4 (by omega) (by omega), e1]
 have h15 : B 15 = 15#32 := rfl
 unfold stepI
 rw [B_N, B_N, bits_and, B_N, e1, e2, h15, Crc.byte_two]
 have hl : (Crc.bv8 b &&& 15#32).toNat < 16 := by
   have : (Crc.bv8 b &&& 15#32).toNat ≤ (15#32 : BitVec 32).toNat := by rw [BitVec.toNat_and]; exact Nat.and_le_right
   have e : (15#32 : BitVec 32).toNat = 15 := rfl
   omega
 rw [← Crc.quarter c _ hl]
 rw [Crc.quarter _ (Crc.bv8 b >>> 4) (by rw [BitVec.toNat_ushiftRight, Nat.shiftRight_eq_div_pow, Crc.bv8_toNat]; omega)]

theorem Cs.take_snoc (s : ByteArray) (k : Nat) (h : k < s.size) : s.data.toList.take (k + 1) = s.data.toList.take k ++ [s[k]] := by
 rw [List.take_succ_eq_append_getElem (by simpa using h)]; rfl
theorem Cs.run_step (s : ByteArray) (k : Nat) (h : k < s.size) (c : BitVec 32) : Crc.run c (s.data.toList.take (k + 1)) = Crc.shn 8 (Crc.run c (s.data.toList.take k) ^^^ Crc.bv8 s[k]) := by
 rw [take_snoc s k h, Crc.run_snoc]

theorem Cs.not32 (x : Int) : bits .xor .u32 4294967295 x = N (~~~ B x) := by
 rw [bits_xor, show B 4294967295 = BitVec.allOnes 32 from rfl, BitVec.allOnes_xor]

set_option maxHeartbeats 1000000 in
theorem Cs.update_any (c : Int) (s : ByteArray) (w : World) (hs : s.size ≤ maxLen) :
   Calls Tryz.prog 159 #[.int .u32 c, .string s] w fun e w' => e = .returned (.int .u32 (N (Crc.upd (B c) s.data.toList))) ∧ Below w.heap.size w w' := by
 unfold maxLen at hs
 go_enter Tryz.func159, Tryz.ntmps159
 go_wp2_with (first | (go_at_call 200; refine (table_any _).mono ?_; rintro e w1 ⟨rfl, hb⟩) | (refine wpList_store_row rfl _ _ _ rfl w1.heap.size (tabA 16) rfl rfl 320 _ (heap_alloc_new _ _) (by rw [size40, tabA_size]) (by rw [tabA_size]; rfl) (tabA_one 16) ?_))
 have hle := hb.size
 go_loopw [8] (fun i wr => ∃ (j : Nat) (r : Int), j ≤ s.size ∧ i = .int .i64 j ∧ r = N (Crc.run (~~~ B c) (s.data.toList.take j)) ∧ wr.heap[w1.heap.size]? = some (.cells (tabA 16) 320 (0, 0)) ∧ wr.heap[w1.heap.size + 1]? = some (.cells #[.int .u32 r] 172 (0, 0)) ∧ Below w.heap.size w wr) (fun i _ => s.size - (intOf i).toNat)
 case atStart =>
   refine ⟨0, bits BinOp.xor IntKind.u32 IntKind.u32.max c, by omega, rfl, ?_, ?_, ?_, ?_⟩
   rotate_left 1
   · rw [heap_alloc_old]
     · exact setRow_heap _ _ _ _ _ _ (heap_alloc_new _ _)
     · simp
   · have := heap_alloc_new ((w1.alloc (Obj.cells (tabA 0) 320)).setRow w1.heap.size (tabA 16)) (Obj.cells #[Value.int IntKind.u32 (bits BinOp.xor IntKind.u32 IntKind.u32.max c)] 172)
     simp only [size_setRow, World.size_alloc] at this
     exact this
   · exact (below_setRow (hb.alloc (by omega) _) (by omega) _).alloc (by simp; omega) _
   · show bits BinOp.xor IntKind.u32 4294967295 c = _
     rw [not32]; rfl
 case round =>
   obtain ⟨j, r, hj, rfl, hr, hA, hB, hbel⟩ := hrel
   have HA := Lib.hid hA
   have HB := Lib.hid hB
   have HR := Lib.hid hr
   have hr0 : 0 ≤ r := by rw [hr]; exact N_lo _
   have hr1 : r ≤ 4294967295 := by rw [hr]; exact N_hi _
   clear hA hB hr
   by_cases hlt : j < s.size
   · have hcell : wr.cell? ⟨w1.heap.size + 1, 0, none⟩ = some (.int .u32 r) := cell_of_one HB.out
     have hfree : wr.frozen? ⟨w1.heap.size + 1, 0, none⟩ = false := free_of_one HB.out
     have hbj : ((s[j].toNat : Nat) : Int) ≤ 255 := by have := s[j].toNat_lt; omega
     have E := Lib.hid (step_two (Crc.run (~~~ B c) (s.data.toList.take j)) s[j])
     go_wp2_with fail
     refine (step_any _ r _ _ _ hr0 hr1 hcell hfree HA.out).mono ?_
     rintro e w2 ⟨rfl, rfl⟩
     have q0 : 0 ≤ stepI r (bits .and .u32 (s[j].toNat : Int) 15) := N_lo _
     have q1 : stepI r (bits .and .u32 (s[j].toNat : Int) 15) ≤ 4294967295 := N_hi _
     have HA2 : Hid ((wr.setCell ⟨w1.heap.size + 1, 0, none⟩ (.int .u32 (stepI r (bits .and .u32 (s[j].toNat : Int) 15)))).drew.heap[w1.heap.size]? = some (.cells (tabA 16) 320 (0, 0))) :=
       (heap_setCell_other _ _ _ _ (by simp)).trans HA.out
     have HB2 : Hid ((wr.setCell ⟨w1.heap.size + 1, 0, none⟩ (.int .u32 (stepI r (bits .and .u32 (s[j].toNat : Int) 15)))).drew.heap[w1.heap.size + 1]? = some (.cells #[.int .u32 (stepI r (bits .and .u32 (s[j].toNat : Int) 15))] 172 (0, 0))) := one_setCell HB.out
     go_wp2_with fail
     refine (step_any _ (stepI r (bits .and .u32 (s[j].toNat : Int) 15)) _ _ _ q0 q1 (cell_of_one HB2.out) (free_of_one HB2.out) HA2.out).mono ?_
     rintro e w2 ⟨rfl, rfl⟩
     go_wp2_with fail
     go_roundw
     case rel =>
       refine ⟨j + 1, stepI (stepI r (bits .and .u32 (s[j].toNat : Int) 15)) ((s[j].toNat : Int) / 16), by omega, by go_num, ?_, ?_, ?_, ?_⟩
       rotate_left 1
       · exact (heap_setCell_other _ _ _ _ (by simp)).trans HA2.out
       · exact one_setCell HB2.out
       · exact (((hbel.setCell (by simp; omega) _).drew).setCell (by simp; omega) _).drew
       · rw [HR.out, E.out, run_step s j hlt]
     case measure => simp [intOf]; omega
   · have hjs : j = s.size := by omega
     subst hjs
     have hcell : wr.cell? ⟨w1.heap.size + 1, 0, none⟩ = some (.int .u32 r) := cell_of_one HB.out
     go_wp2_with fail
     go_ret
     refine ⟨ret_int ?_, hbel⟩
     show bits BinOp.xor IntKind.u32 4294967295 r = _
     rw [not32, HR.out, B_N, List.take_of_length_le (by simp)]; rfl
end

section
open Go.RowKit Go.Sort

set_option maxHeartbeats 400000 in
theorem Cs.sum_any (s : ByteArray) (w : World) (hs : s.size ≤ maxLen) :
   Calls Tryz.prog 94 #[.string s] w fun e w' => e = .returned (.int .u32 (N (Crc.sum s.data.toList))) ∧ Below w.heap.size w w' := by
 go_enter Tryz.func94, Tryz.ntmps94
 go_wp2_with (go_at_call 159; refine (update_any _ _ _ hs).mono ?_; rintro e w1 ⟨rfl, hb⟩)
 go_ret
 exact ⟨rfl, hb⟩

theorem Cs.underlying45 : Tryz.prog.underlying 70 = some (.slice 5) := by kernel_rfl
theorem Cs.underlying5 : Tryz.prog.underlying 5 = some (.int .u8) := by kernel_rfl
theorem Cs.underlying9 : Tryz.prog.underlying 9 = some .string := by kernel_rfl

/-- The four bytes of a word, as a string. -/
def Cs.bstr (r : BitVec 32) : ByteArray := ⟨(Crc.bytes r).toArray⟩
theorem Cs.bstr_size (r : BitVec 32) : (bstr r).size = 4 := rfl

/-- The numbers of a word's four bytes, as the walk has them. -/
def Cs.four (x : Int) : List Int := [x % 256, x / 256 % 256, x / 65536 % 256, x / 16777216]
theorem Cs.four_str (x : Int) (h0 : 0 ≤ x) (h1 : x ≤ 4294967295) : strOfNums (four x) = bstr (B x) := by
 obtain ⟨n, rfl⟩ := Int.eq_ofNat_of_zero_le h0
 unfold strOfNums four bstr Crc.bytes
 simp only [List.map]
 have e : (B (n : Int)).toNat = n := by unfold B; rw [BitVec.ofInt_natCast, BitVec.toNat_ofNat]; omega
 rw [e]
 congr 2
 simp only [List.cons.injEq, and_true]
 refine ⟨?_, ?_, ?_, ?_⟩ <;> (apply UInt8.toNat_inj.1; simp; try omega)

set_option maxHeartbeats 400000 in
theorem Cs.conv_four (x : Int) (w : World) : (convert 70 9 (.slice (some ⟨w.heap.size, 0, none⟩) 4 4)).run Tryz.prog
   (w.alloc (.cells #[.int .u8 (x % 256), .int .u8 (x / 256 % 256), .int .u8 (x / 65536 % 256), .int .u8 (x / 16777216)] 5)) =
   .ok (.string (strOfNums (four x))) (w.alloc (.cells #[.int .u8 (x % 256), .int .u8 (x / 256 % 256), .int .u8 (x / 65536 % 256), .int .u8 (x / 16777216)] 5)) := by
 refine run_convert_bytes_arg (P := Tryz.prog) _ 70 5 underlying45 underlying5 w.heap.size 0 4 4 (four x) rfl ?_ 9 underlying9
 intro i hi
 rw [cell_of_row _ _ _ _ _ _ (heap_alloc_new _ _)]
 have : i = 0 ∨ i = 1 ∨ i = 2 ∨ i = 3 := by omega
 rcases this with rfl | rfl | rfl | rfl <;> rfl

theorem Cs.ret_str {a b : ByteArray} (h : a = b) : Ending.returned (.string a) = .returned (.string b) := by rw [h]

set_option maxHeartbeats 400000 in
theorem Cs.bytes_any (x : Int) (w : World) (h0 : 0 ≤ x) (h1 : x ≤ 4294967295) :
   Calls Tryz.prog 120 #[.int .u32 x] w fun e w' => e = .returned (.string (bstr (B x))) ∧ Below w.heap.size w w' := by
 have hcv := conv_four x w
 have H := Lib.hid (four_str x h0 h1)
 go_enter Tryz.func120, Tryz.ntmps120
 go_wp2
 go_ret
 exact ⟨ret_str H.out, (Below.refl _ _).alloc (by simp) _⟩

/-- The sealed text. -/
def Cs.tailB (s : ByteArray) : ByteArray := bstr (Crc.sum s.data.toList)
theorem Cs.tailB_size (s : ByteArray) : (tailB s).size = 4 := rfl
theorem Cs.tailB_N (s : ByteArray) : bstr (B (N (Crc.sum s.data.toList))) = tailB s := by rw [B_N]; rfl

set_option maxHeartbeats 400000 in
theorem Cs.sealed_any (s : ByteArray) (w : World) (hs : s.size ≤ 1000) :
   Calls Tryz.prog 161 #[.string s] w fun e w' => e = .returned (.string (s ++ tailB s)) ∧ Below w.heap.size w w' := by
 have hsz : s.size ≤ maxLen := by unfold maxLen; omega
 have b0 := N_lo (Crc.sum s.data.toList)
 have b1 := N_hi (Crc.sum s.data.toList)
 have b4 : (bstr (B (N (Crc.sum s.data.toList)))).size ≤ 4 := by rw [bstr_size]; omega
 go_enter Tryz.func161, Tryz.ntmps161
 go_wp2_with (first | (go_at_call 94; refine (sum_any _ _ hsz).mono ?_; rintro e w1 ⟨rfl, hb⟩) | (go_at_call 120; refine (bytes_any _ _ b0 b1).mono ?_; rintro e w2 ⟨rfl, hb2⟩))
 go_ret
 exact ⟨ret_str (by rw [tailB_N]), hb.trans (hb2.mono hb.size)⟩
end

section
open Go.RowKit Go.Sort

theorem Cs.or_high (k x y : Nat) (h : x < 2 ^ k) : x ||| y * 2 ^ k = x + y * 2 ^ k := by
 have e : x + y * 2 ^ k = y * 2 ^ k ||| x := by
   rw [Nat.mul_comm, ← Nat.two_pow_add_eq_or_of_lt h]; omega
 rw [e, Nat.or_comm]
theorem Cs.or_four (a b c d : Nat) (ha : a < 256) (hb : b < 256) (hc : c < 256) (hd : d < 256) :
   bits .or .u32 (bits .or .u32 (bits .or .u32 ((a : Int) % 4294967296) ((b : Int) % 4294967296 * 256 % 4294967296)) ((c : Int) % 4294967296 * 65536 % 4294967296)) ((d : Int) % 4294967296 * 16777216 % 4294967296) =
     ((a + 256 * b + 65536 * c + 16777216 * d : Nat) : Int) := by
 rw [show (a : Int) % 4294967296 = ((a : Nat) : Int) from by omega, show (b : Int) % 4294967296 * 256 % 4294967296 = ((b * 2 ^ 8 : Nat) : Int) from by omega,
   show (c : Int) % 4294967296 * 65536 % 4294967296 = ((c * 2 ^ 16 : Nat) : Int) from by omega, show (d : Int) % 4294967296 * 16777216 % 4294967296 = ((d * 2 ^ 24 : Nat) : Int) from by omega]
 rw [u32_or_nat a _ (by omega) (by omega), or_high 8 a b (by omega), u32_or_nat _ _ (by omega) (by omega), or_high 16 _ c (by omega), u32_or_nat _ _ (by omega) (by omega), or_high 24 _ d (by omega)]
 omega
theorem Cs.le4_N (a b c d : UInt8) : N (Crc.num [a, b, c, d]) = ((a.toNat + 256 * b.toNat + 65536 * c.toNat + 16777216 * d.toNat : Nat) : Int) := by
 have ha := a.toNat_lt; have hb := b.toNat_lt; have hc := c.toNat_lt; have hd := d.toNat_lt
 unfold N Crc.num Crc.le4
 rw [BitVec.toNat_ofNat]; omega

set_option maxHeartbeats 400000 in
theorem Cs.number_four (a b c d : UInt8) (w : World) :
   Calls Tryz.prog 170 #[.string ⟨#[a, b, c, d]⟩] w fun e w' => e = .returned (.int .u32 (N (Crc.num [a, b, c, d]))) ∧ Below w.heap.size w w' := by
 have ha : ((a.toNat : Nat) : Int) ≤ 255 := by have := a.toNat_lt; omega
 have hb : ((b.toNat : Nat) : Int) ≤ 255 := by have := b.toNat_lt; omega
 have hc : ((c.toNat : Nat) : Int) ≤ 255 := by have := c.toNat_lt; omega
 have hd : ((d.toNat : Nat) : Int) ≤ 255 := by have := d.toNat_lt; omega
 go_enter Tryz.func170, Tryz.ntmps170
 go_wp2
 go_quiet (fail)
 go_wp2
 go_ret
 refine ⟨ret_int ?_, below_drewN (Below.refl _ _) _⟩
 rw [le4_N]
 exact or_four a.toNat b.toNat c.toNat d.toNat (by omega) (by omega) (by omega) (by omega)

set_option maxHeartbeats 400000 in
theorem Cs.number_other (s : ByteArray) (w : World) (h : s.size ≠ 4) :
   Calls Tryz.prog 170 #[.string s] w fun e w' => e = .returned (.int .u32 0) ∧ Below w.heap.size w w' := by
 have h4 : ((s.size : Int) != 4) = true := by rw [bne_iff_ne]; omega
 go_enter Tryz.func170, Tryz.ntmps170
 go_wp2
 go_ret
 exact ⟨rfl, Below.refl _ _⟩

theorem Cs.four_of_size (s : ByteArray) (h : s.size = 4) : ∃ a b c d : UInt8, s = ⟨#[a, b, c, d]⟩ := by
 obtain ⟨⟨l⟩⟩ := s
 have hl : l.length = 4 := by simpa [ByteArray.size] using h
 match l, hl with
 | [a, b, c, d], _ => exact ⟨a, b, c, d, rfl⟩
theorem Cs.num_other (l : List UInt8) (h : l.length ≠ 4) : Crc.num l = 0#32 := by
 match l, h with
 | [], _ => rfl
 | [_], _ => rfl
 | [_, _], _ => rfl
 | [_, _, _], _ => rfl
 | [_, _, _, _], h => simp at h
 | _ :: _ :: _ :: _ :: _ :: _, _ => rfl

theorem Cs.number_any (s : ByteArray) (w : World) :
   Calls Tryz.prog 170 #[.string s] w fun e w' => e = .returned (.int .u32 (N (Crc.num s.data.toList))) ∧ Below w.heap.size w w' := by
 by_cases h : s.size = 4
 · obtain ⟨a, b, c, d, rfl⟩ := four_of_size s h
   exact number_four a b c d w
 · rw [num_other s.data.toList (by rw [Array.length_toList]; exact h)]
   exact number_other s w h
/-- Open: fewer than four bytes. -/
theorem Cs.open_short (s : ByteArray) (w : World) (h : s.size < 4) :
   Calls Tryz.prog 151 #[.string s] w fun e w' => e = .returned (.tuple #[.string ByteArray.empty, .int .i64 11]) ∧ Below w.heap.size w w' := by
 have hd : decide ((s.size : Int) - 4 < 0) = true := by simp; omega
 have hd' : decide ((s.size : Int) < 4) = true := by simp; omega
 go_enter Tryz.func151, Tryz.ntmps151
 go_wp2
 go_quiet (fail)
 go_wp2
 go_ret2
 exact ⟨rfl, below_drewN (Below.refl _ _) _⟩

/-- The text without its last four bytes; that it is sealed. -/
def Cs.bodyB (s : ByteArray) : ByteArray := s.extract 0 (s.size - 4)
def Cs.Val (s : ByteArray) : Prop := bodyB s ++ tailB (bodyB s) = s

theorem Cs.bodyB_list (s : ByteArray) : (bodyB s).data.toList = s.data.toList.take (s.size - 4) := by
 unfold bodyB
 simp [ByteArray.data_extract]
theorem Cs.bytes_ext {a b : ByteArray} (h : a.data.toList = b.data.toList) : a = b := by
 obtain ⟨⟨a⟩⟩ := a; obtain ⟨⟨b⟩⟩ := b; simp at h; subst h; rfl
theorem Cs.val_iff (s : ByteArray) (h : 4 ≤ s.size) :
   Val s ↔ Crc.num (List.take (s.size - (s.size - 4)) (List.drop (s.size - 4) s.data.toList)) = Crc.sum (List.take (s.size - 4) s.data.toList) := by
 have hl : (List.drop (s.size - 4) s.data.toList).length = 4 := by rw [List.length_drop, Array.length_toList]; show s.size - _ = 4; omega
 have ht : List.take (s.size - (s.size - 4)) (List.drop (s.size - 4) s.data.toList) = List.drop (s.size - 4) s.data.toList := by
   apply List.take_of_length_le; omega
 rw [ht]
 have hsplit : s.data.toList = s.data.toList.take (s.size - 4) ++ s.data.toList.drop (s.size - 4) := (List.take_append_drop _ _).symm
 constructor
 · intro hv
   have h1 : (bodyB s ++ tailB (bodyB s)).data.toList = s.data.toList := by rw [hv]
   rw [ByteArray.data_append, Array.toList_append, bodyB_list] at h1
   conv at h1 => rhs; rw [hsplit]
   have h2 := List.append_cancel_left h1
   rw [← h2]
   unfold tailB bstr
   rw [bodyB_list]
   exact Crc.num_bytes _
 · intro hv
   apply bytes_ext
   rw [ByteArray.data_append, Array.toList_append, bodyB_list]
   conv => rhs; rw [hsplit]
   congr 1
   unfold tailB bstr
   rw [bodyB_list, ← hv]
   exact Crc.bytes_num _ hl

theorem Cs.ne_N_false {a b : BitVec 32} (h : a = b) : (N a != N b) = false := by rw [h]; simp
theorem Cs.ne_N_true {a b : BitVec 32} (h : ¬ a = b) : (N a != N b) = true := by rw [bne_iff_ne]; exact fun e => h (N_inj e)

set_option maxHeartbeats 400000 in
theorem Cs.open_good (s : ByteArray) (w : World) (h : 4 ≤ s.size) (hs : s.size ≤ 1000) (hv : Val s) :
   Calls Tryz.prog 151 #[.string s] w fun e w' => e = .returned (.tuple #[.string (bodyB s), .int .i64 0]) ∧ Below w.heap.size w w' := by
 have hd : decide ((s.size : Int) - 4 < 0) = false := by simp; omega
 have hd' : decide ((s.size : Int) < 4) = false := by simp; omega
 have hex : (s.extract 0 (s.size - 4)).size ≤ maxLen := by rw [ByteArray.size_extract]; unfold maxLen; omega
 have hne := ne_N_false ((val_iff s h).1 hv)
 have hv' := Lib.hid hv
 clear hv
 go_enter Tryz.func151, Tryz.ntmps151
 go_wp2
 refine wp_region_quiet_below (by kernel_rfl) (by kernel_rfl) ?_
 repeat (go_big_quiet_step ((first | (go_at_call 170; exact Calls.regrown_of (number_any _ _)) | (go_at_call 94; exact Calls.regrown_of (sum_any _ _ hex)))))
 refine wpQuiet_nil ?_
 intro _ hw'
 obtain ⟨⟨dq, osq⟩, hw''⟩ := hw'
 subst hw''
 go_wp2
 go_ret2
 exact ⟨rfl, below_regrown w dq osq⟩

set_option maxHeartbeats 400000 in
theorem Cs.open_bad (s : ByteArray) (w : World) (h : 4 ≤ s.size) (hs : s.size ≤ 1000) (hv : ¬ Val s) :
   Calls Tryz.prog 151 #[.string s] w fun e w' => e = .returned (.tuple #[.string ByteArray.empty, .int .i64 11]) ∧ Below w.heap.size w w' := by
 have hd : decide ((s.size : Int) - 4 < 0) = false := by simp; omega
 have hd' : decide ((s.size : Int) < 4) = false := by simp; omega
 have hex : (s.extract 0 (s.size - 4)).size ≤ maxLen := by rw [ByteArray.size_extract]; unfold maxLen; omega
 have hne := ne_N_true (fun e => hv ((val_iff s h).2 e))
 have hv' := Lib.hid hv
 clear hv
 go_enter Tryz.func151, Tryz.ntmps151
 go_wp2
 refine wp_region_quiet_below (by kernel_rfl) (by kernel_rfl) ?_
 repeat (go_big_quiet_step ((first | (go_at_call 170; exact Calls.regrown_of (number_any _ _)) | (go_at_call 94; exact Calls.regrown_of (sum_any _ _ hex)))))
 refine wpQuiet_nil ?_
 intro _ hw'
 obtain ⟨⟨dq, osq⟩, hw''⟩ := hw'
 subst hw''
 go_wp2
 go_ret2
 exact ⟨rfl, below_regrown w dq osq⟩
end

end Go.Proofs.YtjpkdhnponcciaaGreatDoor

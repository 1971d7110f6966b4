/-
  Walks of Sum, of the reference's Update, and of Bytes, Number.
-/
import Derived.Test.YtlpejbmckidacaaW2
namespace Go.Proofs.Ytlpejbmckidacaa
open Go.RowKit

set_option maxHeartbeats 400000 in
theorem sum_any (s : ByteArray) (w : World) (hs : s.size ≤ maxLen) :
    Calls Try.prog 12 #[.string s] w fun e w' => e = .returned (.int .u32 (N (Crc.sum s.data.toList))) ∧ Below w.heap.size w w' := by
  go_enter Try.func12, Try.ntmps12
  go_wp2_with (go_at_call 14; refine (update_any _ _ _ hs).mono ?_; rintro e w1 ⟨rfl, hb⟩)
  go_ret
  exact ⟨rfl, hb⟩

set_option maxHeartbeats 1000000 in
theorem refupdate_any (c : Int) (s : ByteArray) (w : World) (hs : s.size ≤ maxLen) :
    Calls Try.prog 15 #[.int .u32 c, .string s] w fun e w' => e = .returned (.int .u32 (N (Crc.upd (B c) s.data.toList))) ∧ w = w' := by
  unfold maxLen at hs
  go_enter Try.func15, Try.ntmps15
  go_wp2
  go_loop [5, 6, 7] (fun v i _ => ∃ (j : Nat) (r : Int), j ≤ s.size ∧ i = .int .i64 j ∧ v = .int .u32 r ∧ r = N (Crc.run (~~~ B c) (s.data.toList.take j))) (fun _ i _ => s.size - (intOf i).toNat)
  case atStart =>
    refine ⟨0, _, by omega, rfl, rfl, ?_⟩
    show bits BinOp.xor IntKind.u32 4294967295 c = _
    rw [not32]; rfl
  case round =>
    obtain ⟨j, r, hj, rfl, rfl, hr⟩ := hrel
    have HR := Lib.hid hr
    have hr0 : 0 ≤ r := by rw [hr]; exact N_lo _
    have hr1 : r ≤ 4294967295 := by rw [hr]; exact N_hi _
    clear hr
    by_cases hlt : j < s.size
    · have hbj : ((s[j].toNat : Nat) : Int) ≤ 255 := by have := s[j].toNat_lt; omega
      go_wp2
      go_loop [5, 7] (fun v i => ∃ (k : Nat) (r' : Int), k ≤ 8 ∧ i = .int .i64 k ∧ v = .int .u32 r' ∧ r' = N (Crc.shn k (Crc.run (~~~ B c) (s.data.toList.take j) ^^^ Crc.bv8 s[j]))) (fun _ i => 8 - (intOf i).toNat)
      case atStart =>
        refine ⟨0, _, by omega, rfl, rfl, ?_⟩
        rw [bits_xor, HR.out, B_N]
        simp only [B, Crc.bv8, BitVec.ofInt_natCast]; rfl
      case round =>
        obtain ⟨k, r', hk, rfl, rfl, hr'⟩ := hrel
        have HR' := Lib.hid hr'
        have hr0' : 0 ≤ r' := by rw [hr']; exact N_lo _
        have hr1' : r' ≤ 4294967295 := by rw [hr']; exact N_hi _
        clear hr'
        by_cases hlt8 : k < 8
        · go_wp2_with (go_at_call 29; refine (refshift_any _ _ hr0' hr1').mono ?_; rintro e w1 ⟨rfl, rfl⟩)
          go_round
          case rel => exact ⟨k + 1, _, by omega, by go_num, rfl, by rw [HR'.out, B_N, Crc.shn_succ']⟩
          case measure => simp [intOf]; omega
        · have h8 : k = 8 := by omega
          subst h8
          go_wp2
          go_round
          case rel => exact ⟨j + 1, _, by omega, by go_num, rfl, by rw [HR'.out, run_step s j hlt]⟩
          case measure => simp [intOf]; omega
    · have hjs : j = s.size := by omega
      subst hjs
      go_wp2
      go_ret
      refine ⟨ret_int ?_, rfl⟩
      show bits BinOp.xor IntKind.u32 4294967295 r = _
      rw [not32, HR.out, B_N, List.take_of_length_le (by simp)]; rfl

set_option maxHeartbeats 400000 in
theorem refsum_any (s : ByteArray) (w : World) (hs : s.size ≤ maxLen) :
    Calls Try.prog 13 #[.string s] w fun e w' => e = .returned (.int .u32 (N (Crc.sum s.data.toList))) ∧ w = w' := by
  go_enter Try.func13, Try.ntmps13
  go_wp2_with (go_at_call 15; refine (refupdate_any _ _ _ hs).mono ?_; rintro e w1 ⟨rfl, rfl⟩)
  go_ret
  exact ⟨rfl, rfl⟩

theorem Below.drewN {n : Nat} {a w : World} (h : Below n a w) (k : Nat) : Below n a (w.drewN k) := ⟨h.os, h.tape, h.output, h.size, h.block⟩
theorem underlying45 : Try.prog.underlying 45 = some (.slice 5) := by kernel_rfl
theorem underlying5 : Try.prog.underlying 5 = some (.int .u8) := by kernel_rfl
theorem underlying9 : Try.prog.underlying 9 = some .string := by kernel_rfl

/-- The four bytes of a word, as a string. -/
def bstr (r : BitVec 32) : ByteArray := ⟨(Crc.bytes r).toArray⟩
theorem bstr_size (r : BitVec 32) : (bstr r).size = 4 := rfl

/-- The numbers of a word's four bytes, as the walk has them. -/
def four (x : Int) : List Int := [x % 256, x / 256 % 256, x / 65536 % 256, x / 16777216]
theorem four_str (x : Int) (h0 : 0 ≤ x) (h1 : x ≤ 4294967295) : strOfNums (four x) = bstr (B x) := by
  obtain ⟨n, rfl⟩ := Int.eq_ofNat_of_zero_le h0
  unfold strOfNums four bstr Crc.bytes
  simp only [List.map]
  have e : (B (n : Int)).toNat = n := by unfold B; rw [BitVec.ofInt_natCast, BitVec.toNat_ofNat]; omega
  rw [e]
  congr 2
  simp only [List.cons.injEq, and_true]
  refine ⟨?_, ?_, ?_, ?_⟩ <;> (apply UInt8.toNat_inj.1; simp; try omega)

set_option maxHeartbeats 400000 in
theorem conv_four (x : Int) (w : World) : (convert 45 9 (.slice (some ⟨w.heap.size, 0, none⟩) 4 4)).run Try.prog
    (w.alloc (.cells #[.int .u8 (x % 256), .int .u8 (x / 256 % 256), .int .u8 (x / 65536 % 256), .int .u8 (x / 16777216)] 5)) =
    .ok (.string (strOfNums (four x))) (w.alloc (.cells #[.int .u8 (x % 256), .int .u8 (x / 256 % 256), .int .u8 (x / 65536 % 256), .int .u8 (x / 16777216)] 5)) := by
  refine run_convert_bytes_arg (P := Try.prog) _ 45 5 underlying45 underlying5 w.heap.size 0 4 4 (four x) rfl ?_ 9 underlying9
  intro i hi
  rw [cell_of_row _ _ _ _ _ _ (heap_alloc_new _ _)]
  have : i = 0 ∨ i = 1 ∨ i = 2 ∨ i = 3 := by omega
  rcases this with rfl | rfl | rfl | rfl <;> rfl

theorem ret_str {a b : ByteArray} (h : a = b) : Ending.returned (.string a) = .returned (.string b) := by rw [h]

set_option maxHeartbeats 400000 in
theorem bytes_any (x : Int) (w : World) (h0 : 0 ≤ x) (h1 : x ≤ 4294967295) :
    Calls Try.prog 17 #[.int .u32 x] w fun e w' => e = .returned (.string (bstr (B x))) ∧ Below w.heap.size w w' := by
  have hcv := conv_four x w
  have H := Lib.hid (four_str x h0 h1)
  go_enter Try.func17, Try.ntmps17
  go_wp2
  go_ret
  exact ⟨ret_str H.out, (Below.refl _ _).alloc (by simp) _⟩

set_option maxHeartbeats 400000 in
theorem refbytes_any (x : Int) (w : World) (h0 : 0 ≤ x) (h1 : x ≤ 4294967295) :
    Calls Try.prog 18 #[.int .u32 x] w fun e w' => e = .returned (.string (bstr (B x))) ∧ Below w.heap.size w w' := by
  have hcv := conv_four x w
  have H := Lib.hid (four_str x h0 h1)
  go_enter Try.func18, Try.ntmps18
  go_wp2
  go_ret
  exact ⟨ret_str H.out, (Below.refl _ _).alloc (by simp) _⟩

theorem or_high (k x y : Nat) (h : x < 2 ^ k) : x ||| y * 2 ^ k = x + y * 2 ^ k := by
  have e : x + y * 2 ^ k = y * 2 ^ k ||| x := by
    rw [Nat.mul_comm, ← Nat.two_pow_add_eq_or_of_lt h]; omega
  rw [e, Nat.or_comm]
theorem or_four (a b c d : Nat) (ha : a < 256) (hb : b < 256) (hc : c < 256) (hd : d < 256) :
    bits .or .u32 (bits .or .u32 (bits .or .u32 ((a : Int) % 4294967296) ((b : Int) % 4294967296 * 256 % 4294967296)) ((c : Int) % 4294967296 * 65536 % 4294967296)) ((d : Int) % 4294967296 * 16777216 % 4294967296) =
      ((a + 256 * b + 65536 * c + 16777216 * d : Nat) : Int) := by
  rw [show (a : Int) % 4294967296 = ((a : Nat) : Int) from by omega, show (b : Int) % 4294967296 * 256 % 4294967296 = ((b * 2 ^ 8 : Nat) : Int) from by omega,
    show (c : Int) % 4294967296 * 65536 % 4294967296 = ((c * 2 ^ 16 : Nat) : Int) from by omega, show (d : Int) % 4294967296 * 16777216 % 4294967296 = ((d * 2 ^ 24 : Nat) : Int) from by omega]
  rw [u32_or_nat a _ (by omega) (by omega), or_high 8 a b (by omega), u32_or_nat _ _ (by omega) (by omega), or_high 16 _ c (by omega), u32_or_nat _ _ (by omega) (by omega), or_high 24 _ d (by omega)]
  omega
theorem le4_N (a b c d : UInt8) : N (Crc.num [a, b, c, d]) = ((a.toNat + 256 * b.toNat + 65536 * c.toNat + 16777216 * d.toNat : Nat) : Int) := by
  have ha := a.toNat_lt; have hb := b.toNat_lt; have hc := c.toNat_lt; have hd := d.toNat_lt
  unfold N Crc.num Crc.le4
  rw [BitVec.toNat_ofNat]; omega

set_option maxHeartbeats 400000 in
theorem number_four (a b c d : UInt8) (w : World) :
    Calls Try.prog 19 #[.string ⟨#[a, b, c, d]⟩] w fun e w' => e = .returned (.int .u32 (N (Crc.num [a, b, c, d]))) ∧ Below w.heap.size w w' := by
  have ha : ((a.toNat : Nat) : Int) ≤ 255 := by have := a.toNat_lt; omega
  have hb : ((b.toNat : Nat) : Int) ≤ 255 := by have := b.toNat_lt; omega
  have hc : ((c.toNat : Nat) : Int) ≤ 255 := by have := c.toNat_lt; omega
  have hd : ((d.toNat : Nat) : Int) ≤ 255 := by have := d.toNat_lt; omega
  go_enter Try.func19, Try.ntmps19
  go_wp2
  go_quiet (fail)
  go_wp2
  go_ret
  refine ⟨ret_int ?_, Below.drewN (Below.refl _ _) _⟩
  rw [le4_N]
  exact or_four a.toNat b.toNat c.toNat d.toNat (by omega) (by omega) (by omega) (by omega)

set_option maxHeartbeats 400000 in
theorem refnumber_four (a b c d : UInt8) (w : World) :
    Calls Try.prog 20 #[.string ⟨#[a, b, c, d]⟩] w fun e w' => e = .returned (.int .u32 (N (Crc.num [a, b, c, d]))) ∧ Below w.heap.size w w' := by
  have ha : ((a.toNat : Nat) : Int) ≤ 255 := by have := a.toNat_lt; omega
  have hb : ((b.toNat : Nat) : Int) ≤ 255 := by have := b.toNat_lt; omega
  have hc : ((c.toNat : Nat) : Int) ≤ 255 := by have := c.toNat_lt; omega
  have hd : ((d.toNat : Nat) : Int) ≤ 255 := by have := d.toNat_lt; omega
  go_enter Try.func20, Try.ntmps20
  go_wp2
  go_quiet (fail)
  go_wp2
  go_ret
  refine ⟨ret_int ?_, Below.drewN (Below.refl _ _) _⟩
  rw [le4_N]
  show ((((a.toNat : Int) + (b.toNat : Int) % 4294967296 * 256 + (c.toNat : Int) % 4294967296 * 65536) % 4294967296 + (d.toNat : Int) % 4294967296 * 16777216 % 4294967296) % 4294967296) = _
  omega

set_option maxHeartbeats 400000 in
theorem number_other (s : ByteArray) (w : World) (h : s.size ≠ 4) :
    Calls Try.prog 19 #[.string s] w fun e w' => e = .returned (.int .u32 0) ∧ Below w.heap.size w w' := by
  have h4 : ((s.size : Int) != 4) = true := by rw [bne_iff_ne]; omega
  go_enter Try.func19, Try.ntmps19
  go_wp2
  go_ret
  exact ⟨rfl, Below.refl _ _⟩

set_option maxHeartbeats 400000 in
theorem refnumber_other (s : ByteArray) (w : World) (h : s.size ≠ 4) :
    Calls Try.prog 20 #[.string s] w fun e w' => e = .returned (.int .u32 0) ∧ Below w.heap.size w w' := by
  have h4 : ((s.size : Int) != 4) = true := by rw [bne_iff_ne]; omega
  go_enter Try.func20, Try.ntmps20
  go_wp2
  go_ret
  exact ⟨rfl, Below.refl _ _⟩

end Go.Proofs.Ytlpejbmckidacaa

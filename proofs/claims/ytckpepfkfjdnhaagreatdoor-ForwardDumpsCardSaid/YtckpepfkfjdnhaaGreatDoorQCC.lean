/-
  Plain mathematics of the checksum: the shift register of CRC-32C over bit vectors, and bytes of a word. No walk, no condition.
  Walks: the table of the checksum, and Update. Condition: texts that can be in memory.
  Walks: Sum, Bytes and Seal of the checksum. Condition: texts that can be in memory.
  Walks: the number at the front of bytes.
-/
import Derived.Test.YtckpepfkfjdnhaaGreatDoorQA
import Derived.Test.YtckpepfkfjdnhaaGreatDoorQD
import Derived.WalkSpells
import Derived.WalkLawsBesides
import Derived.Lib.Hide
import Derived.Deep.QuietTactic
import Derived.BigQuiet
import Derived.RegionTactic
import Derived.ChangeAlike
import Derived.Lib.QuietBelow
import Derived.Laws.Bits64b
import Derived.Laws.Shifts
namespace Go.Proofs.YtckpepfkfjdnhaaGreatDoor

section
def Crc.poly : BitVec 32 := 0x82f63b78#32
def Crc.sh (c : BitVec 32) : BitVec 32 := if c.getLsbD 0 then (c >>> 1) ^^^ poly else c >>> 1
def Crc.shn : Nat → BitVec 32 → BitVec 32
 | 0, c => c
 | n + 1, c => shn n (sh c)

theorem Crc.sh_xor (a b : BitVec 32) : sh (a ^^^ b) = sh a ^^^ sh b := by
 unfold sh
 rw [BitVec.getLsbD_xor, BitVec.ushiftRight_xor_distrib]
 cases a.getLsbD 0 <;> cases b.getLsbD 0 <;> simp
 · rw [BitVec.xor_assoc]
 · rw [BitVec.xor_assoc, BitVec.xor_assoc, BitVec.xor_comm poly]
 · rw [BitVec.xor_assoc, BitVec.xor_comm poly, BitVec.xor_assoc, BitVec.xor_self, BitVec.xor_zero]

theorem Crc.shn_xor (n : Nat) : ∀ a b : BitVec 32, shn n (a ^^^ b) = shn n a ^^^ shn n b := by
 induction n with
 | zero => intro a b; rfl
 | succ n ih => intro a b; simp only [shn]; rw [sh_xor, ih]

theorem Crc.shn_add (m n : Nat) : ∀ c, shn (m + n) c = shn n (shn m c) := by
 induction m with
 | zero => intro c; simp [shn]
 | succ m ih => intro c; rw [Nat.succ_add]; simp only [shn]; exact ih _

theorem Crc.shn_succ' (n : Nat) (c : BitVec 32) : shn (n + 1) c = sh (shn n c) := by
 rw [shn_add]; rfl

/-- A register whose lowest bits are free is only moved. -/
theorem Crc.sh_shl (x : BitVec 32) (h : x.toNat < 2147483648) : sh (x <<< 1) = x := by
 unfold sh
 rw [if_neg (by simp)]
 apply BitVec.eq_of_toNat_eq
 simp [Nat.shiftRight_eq_div_pow, Nat.shiftLeft_eq]
 omega

theorem Crc.shn_shl (k : Nat) : ∀ (x : BitVec 32), k ≤ 32 → x.toNat < 2 ^ (32 - k) → shn k (x <<< k) = x := by
 induction k with
 | zero => intro x _ _; simp [shn]
 | succ k ih =>
   intro x hk h
   have e : x <<< (k + 1) = (x <<< k) <<< 1 := by rw [BitVec.shiftLeft_add]
   have hp : (2 : Nat) ^ (32 - k) = 2 * 2 ^ (32 - (k + 1)) := by
     rw [show 32 - k = (32 - (k + 1)) + 1 from by omega, Nat.pow_succ]; omega
   have hk2 : (2 : Nat) ^ k * 2 ^ (32 - (k + 1)) = 2147483648 := by
     rw [← Nat.pow_add, show k + (32 - (k + 1)) = 31 from by omega]
   have hlt : (x <<< k).toNat < 2147483648 := by
     rw [BitVec.toNat_shiftLeft, Nat.shiftLeft_eq]
     have : x.toNat * 2 ^ k < 2147483648 := by
       rw [Nat.mul_comm, ← hk2]
       exact Nat.mul_lt_mul_of_pos_left h (Nat.two_pow_pos k)
     omega
   rw [e]; simp only [shn]
   rw [sh_shl _ hlt]
   exact ih x (by omega) (by omega)

/-- The register behind some bytes. -/
def Crc.bv8 (b : UInt8) : BitVec 32 := BitVec.ofNat 32 b.toNat
def Crc.run (c : BitVec 32) (l : List UInt8) : BitVec 32 := l.foldl (fun c b => shn 8 (c ^^^ bv8 b)) c
def Crc.upd (s : BitVec 32) (l : List UInt8) : BitVec 32 := ~~~ run (~~~ s) l
def Crc.sum (l : List UInt8) : BitVec 32 := upd 0#32 l

theorem Crc.run_append (c : BitVec 32) (l m : List UInt8) : run c (l ++ m) = run (run c l) m := by
 unfold run; rw [List.foldl_append]
theorem Crc.run_snoc (c : BitVec 32) (l : List UInt8) (b : UInt8) : run c (l ++ [b]) = shn 8 (run c l ^^^ bv8 b) := by
 rw [run_append]; rfl

/-- The table of sixteen registers: a register is moved four bits by one look. -/
theorem Crc.quarter (x b : BitVec 32) (hb : b.toNat < 16) : shn 4 (x ^^^ b) = (x >>> 4) ^^^ shn 4 ((x ^^^ b) &&& 15#32) := by
 have h1 : x ^^^ b = ((x >>> 4) <<< 4) ^^^ ((x ^^^ b) &&& 15#32) := by
   apply BitVec.eq_of_getLsbD_eq
   intro i hi
   simp only [BitVec.getLsbD_xor, BitVec.getLsbD_shiftLeft, BitVec.getLsbD_ushiftRight, BitVec.getLsbD_and]
   have hb4 : ∀ j, 4 ≤ j → b.getLsbD j = false := by
     intro j hj
     rw [BitVec.getLsbD]
     apply Nat.testBit_lt_two_pow
     calc b.toNat < 2 ^ 4 := hb
       _ ≤ 2 ^ j := Nat.pow_le_pow_right (by omega) hj
   by_cases h : i < 4
   · have : i = 0 ∨ i = 1 ∨ i = 2 ∨ i = 3 := by omega
     rcases this with rfl | rfl | rfl | rfl <;> simp
   · have e15 : (15#32 : BitVec 32).getLsbD i = false := by
       rw [BitVec.getLsbD]
       apply Nat.testBit_lt_two_pow
       calc (15#32 : BitVec 32).toNat < 2 ^ 4 := by decide
         _ ≤ 2 ^ i := Nat.pow_le_pow_right (by omega) (by omega)
     rw [hb4 i (by omega), e15]
     simp [h, show 4 + (i - 4) = i from by omega, hi]
 have hq : (x >>> 4).toNat < 2 ^ (32 - 4) := by
   rw [BitVec.toNat_ushiftRight, Nat.shiftRight_eq_div_pow]
   have := x.isLt; omega
 conv => lhs; rw [h1]
 rw [shn_xor, shn_shl 4 _ (by omega) hq]

/-- A byte is two quarters. -/
theorem Crc.byte_two (x : BitVec 32) (b : UInt8) :
   shn 8 (x ^^^ bv8 b) = shn 4 (shn 4 (x ^^^ (bv8 b &&& 15#32)) ^^^ (bv8 b >>> 4)) := by
 have hb : (bv8 b).toNat = b.toNat := by unfold bv8; rw [BitVec.toNat_ofNat]; have := b.toNat_lt; omega
 have h1 : bv8 b = (bv8 b &&& 15#32) ^^^ ((bv8 b >>> 4) <<< 4) := by
   apply BitVec.eq_of_getLsbD_eq
   intro i hi
   simp only [BitVec.getLsbD_xor, BitVec.getLsbD_shiftLeft, BitVec.getLsbD_ushiftRight, BitVec.getLsbD_and]
   by_cases h : i < 4
   · have : i = 0 ∨ i = 1 ∨ i = 2 ∨ i = 3 := by omega
     rcases this with rfl | rfl | rfl | rfl <;> simp
   · have e15 : (15#32 : BitVec 32).getLsbD i = false := by
       rw [BitVec.getLsbD]
       apply Nat.testBit_lt_two_pow
       calc (15#32 : BitVec 32).toNat < 2 ^ 4 := by decide
         _ ≤ 2 ^ i := Nat.pow_le_pow_right (by omega) (by omega)
     rw [e15]; simp [h, show 4 + (i - 4) = i from by omega, hi]
 have hq : (bv8 b >>> 4).toNat < 2 ^ (32 - 4) := by
   rw [BitVec.toNat_ushiftRight, Nat.shiftRight_eq_div_pow, hb]
   have := b.toNat_lt; omega
 rw [show (8 : Nat) = 4 + 4 from rfl, shn_add]
 conv => lhs; rw [h1]
 rw [← BitVec.xor_assoc, shn_xor 4 _ ((bv8 b >>> 4) <<< 4), shn_shl 4 _ (by omega) hq]


/-- Four bytes of a word, lowest first, and back. -/
def Crc.bytes (r : BitVec 32) : List UInt8 :=
 [UInt8.ofNat r.toNat, UInt8.ofNat (r.toNat / 256), UInt8.ofNat (r.toNat / 65536), UInt8.ofNat (r.toNat / 16777216)]
def Crc.le4 (a b c d : UInt8) : BitVec 32 := BitVec.ofNat 32 (a.toNat + 256 * b.toNat + 65536 * c.toNat + 16777216 * d.toNat)
def Crc.num : List UInt8 → BitVec 32
 | [a, b, c, d] => le4 a b c d
 | _ => 0#32

theorem Crc.bytes_length (r : BitVec 32) : (bytes r).length = 4 := rfl
theorem Crc.bv8_toNat (b : UInt8) : (bv8 b).toNat = b.toNat := by
 unfold bv8; rw [BitVec.toNat_ofNat]; have := b.toNat_lt; omega

end

section
open Go.RowKit

def Cs.N (r : BitVec 32) : Int := (r.toNat : Int)
def Cs.B (x : Int) : BitVec 32 := BitVec.ofInt 32 x
theorem Cs.N_lo (r) : 0 ≤ N r := by unfold N; omega
theorem Cs.N_hi (r) : N r ≤ 4294967295 := by unfold N; have := r.isLt; omega
theorem Cs.B_N (r) : B (N r) = r := by unfold B N; simp
theorem Cs.N_B (x : Int) (h0 : 0 ≤ x) (h1 : x ≤ 4294967295) : N (B x) = x := by
 unfold B N; rw [BitVec.toNat_ofInt]; omega
theorem Cs.wrapN (n : Nat) (h : n < 4294967296) : IntKind.u32.wrap (n : Int) = (n : Int) := by rw [IntKind.wrap_u32]; omega
theorem Cs.bits_xor (a b : Int) : bits .xor .u32 a b = N (B a ^^^ B b) := by
 simp only [bits]; rw [wrapN _ (BitVec.isLt _)]; rfl
theorem Cs.bits_and (a b : Int) : bits .and .u32 a b = N (B a &&& B b) := by
 simp only [bits]; rw [wrapN _ (BitVec.isLt _)]; rfl
theorem Cs.B_div (x : Int) (k : Nat) (h0 : 0 ≤ x) (h1 : x ≤ 4294967295) : B (x / (2 ^ k : Nat)) = B x >>> k := by
 apply BitVec.eq_of_toNat_eq
 obtain ⟨n, rfl⟩ := Int.eq_ofNat_of_zero_le h0
 unfold B
 rw [BitVec.toNat_ushiftRight, Nat.shiftRight_eq_div_pow, ← Int.natCast_ediv]
 simp only [BitVec.ofInt_natCast, BitVec.toNat_ofNat]
 rw [Nat.mod_eq_of_lt (a := n) (by omega), Nat.mod_eq_of_lt]
 exact Nat.lt_of_le_of_lt (Nat.div_le_self _ _) (by omega)
theorem Cs.B_odd (x : Int) (h0 : 0 ≤ x) (h1 : x ≤ 4294967295) : (B x).getLsbD 0 = decide (x % 2 = 1) := by
 obtain ⟨n, rfl⟩ := Int.eq_ofNat_of_zero_le h0
 unfold B
 rw [BitVec.getLsbD, BitVec.ofInt_natCast, BitVec.toNat_ofNat, Nat.testBit_zero]
 rw [Bool.eq_iff_iff]; simp; omega

theorem Cs.sh_odd (x : Int) (h0 : 0 ≤ x) (h1 : x ≤ 4294967295) (ho : x % 2 = 1) : bits .xor .u32 (x / 2) 2197175160 = N (Crc.sh (B x)) := by
 rw [bits_xor, show x / 2 = x / (2 ^ 1 : Nat) from rfl, B_div x 1 h0 h1]
 unfold Crc.sh
 rw [if_pos (by rw [B_odd x h0 h1]; simpa using ho)]; rfl
theorem Cs.sh_even (x : Int) (h0 : 0 ≤ x) (h1 : x ≤ 4294967295) (ho : ¬ x % 2 = 1) : x / 2 = N (Crc.sh (B x)) := by
 unfold Crc.sh
 rw [if_neg (by rw [B_odd x h0 h1]; simpa using ho), ← B_div x 1 h0 h1, N_B _ (by omega) (by omega)]; rfl

theorem Cs.ret_int {k : IntKind} {a b : Int} (h : a = b) : Ending.returned (.int k a) = .returned (.int k b) := by rw [h]

/-- shift of the program: n rounds. -/
theorem Cs.shift_odd_and (x : Int) (h0 : 0 ≤ x) (h1 : x ≤ 4294967295) : bits .and .u32 x 1 = x % 2 := by
 obtain ⟨n, rfl⟩ := Int.eq_ofNat_of_zero_le h0
 rw [u32_and _ _ (by omega) (by omega) (by omega) (by omega)]
 simp only [Int.toNat_natCast]
 rw [show (1 : Int).toNat = 1 from rfl, nat_mask1]; omega

set_option maxHeartbeats 400000 in
theorem Cs.shift_any (x k : Int) (w : World) (h0 : 0 ≤ x) (h1 : x ≤ 4294967295) (hk0 : 0 ≤ k) (hk : k ≤ 100) :
   Calls Tryz.prog 264 #[.int .u32 x, .int .i64 k] w fun e w' => e = .returned (.int .u32 (N (Crc.shn k.toNat (B x)))) ∧ w = w' := by
 obtain ⟨K, rfl⟩ := Int.eq_ofNat_of_zero_le hk0
 go_enter Tryz.func264, Tryz.ntmps264
 go_wp2
 go_loop [0, 6] (fun s i => ∃ (j : Nat) (r : Int), j ≤ K ∧ 0 ≤ r ∧ r ≤ 4294967295 ∧ i = .int .i64 j ∧ s = .int .u32 r ∧ r = N (Crc.shn j (B x))) (fun _ i => K - (intOf i).toNat)
 case atStart => exact ⟨0, x, by omega, h0, h1, rfl, rfl, by rw [Crc.shn, N_B x h0 h1]⟩
 case round =>
   obtain ⟨j, r, hj, hr0, hr1, rfl, rfl, hr⟩ := hrel
   have HR := Lib.hid hr
   clear hr
   by_cases hlt : j < K
   · by_cases ho : r % 2 = 1
     · have hand := shift_odd_and r hr0 hr1
       have H := Lib.hid (sh_odd r hr0 hr1 ho)
       go_wp2
       go_round
       case rel => exact ⟨j + 1, _, by omega, by rw [H.out]; exact N_lo _, by rw [H.out]; exact N_hi _, by go_num, rfl, by rw [H.out, Crc.shn_succ', HR.out, B_N]⟩
       case measure => simp [intOf]; omega
     · have hand := shift_odd_and r hr0 hr1
       have H := Lib.hid (sh_even r hr0 hr1 ho)
       go_wp2
       go_round
       case rel => exact ⟨j + 1, _, by omega, by omega, by omega, by go_num, rfl, by rw [H.out, Crc.shn_succ', HR.out, B_N]⟩
       case measure => simp [intOf]; omega
   · have hjK : K = j := by omega
     subst hjK
     go_wp2
     go_ret
     exact ⟨ret_int HR.out, rfl⟩

/-- The table of sixteen registers, filled up to j. -/
def Cs.tabA (j : Nat) : Array Value := ((List.range 16).map fun i => Value.int .u32 (if i < j then N (Crc.shn 4 (B i)) else 0)).toArray
theorem Cs.tabA_size (j : Nat) : (tabA j).size = 16 := by simp [tabA]
theorem Cs.tabA_get (j i : Nat) (h : i < 16) : (tabA j)[i]? = some (.int .u32 (if i < j then N (Crc.shn 4 (B i)) else 0)) := by simp [tabA, h]
theorem Cs.tabA_set (j : Nat) : (tabA j).setIfInBounds j (.int .u32 (N (Crc.shn 4 (B j)))) = tabA (j + 1) := by
 apply Array.ext_getElem?
 intro i
 rw [Array.getElem?_setIfInBounds, tabA_size]
 by_cases hi : i < 16
 · rw [tabA_get _ _ hi, tabA_get _ _ hi]
   by_cases e : j = i
   · subst e; simp [hi]
   · rw [if_neg e]
     by_cases h2 : i < j
     · simp [h2, show i < j + 1 from by omega]
     · simp [h2, show ¬ i < j + 1 from by omega]
 · rw [Array.getElem?_eq_none (by rw [tabA_size]; omega), Array.getElem?_eq_none (by rw [tabA_size]; omega)]
   split <;> (try split) <;> first | rfl | omega

theorem Cs.size40 : (Tryz.prog.info? 284).map (·.size) = some 16 := by kernel_rfl
theorem Cs.underlying40 : Tryz.prog.underlying 284 = some (.array 16 162) := by kernel_rfl

theorem Cs.tabA_one (j : Nat) : (tabA j).all (·.oneCell') = true := by simp [tabA, Value.oneCell']
set_option maxHeartbeats 400000 in
theorem Cs.table_any (w : World) :
   Calls Tryz.prog 250 #[] w fun e w' => e = .returned (.agg (tabA 16)) ∧ Below w.heap.size w w' := by
 go_enter Tryz.func250, Tryz.ntmps250
 go_wp2
 go_loopw [2, 3] (fun _ i wr => ∃ j : Nat, j ≤ 16 ∧ i = .int .i64 j ∧ wr.heap[w.heap.size]? = some (.cells (tabA 0) 284 (0, 0)) ∧ wr.heap[w.heap.size + 1]? = some (.cells (tabA j) 284 (0, 0)) ∧ Below w.heap.size w wr ∧ wr.heap.size = w.heap.size + 2) (fun _ i _ => 16 - (intOf i).toNat)
 case atStart => exact ⟨0, by omega, rfl, heap_alloc2_old _ _ _, heap_alloc2_new _ _ _, ((Below.refl _ _).alloc (by simp) _).alloc (by simp) _, by simp⟩
 case round =>
   obtain ⟨j, hj, rfl, hA, hB, hbel, hsz⟩ := hrel
   have HA := Lib.hid hA
   have HB := Lib.hid hB
   have HS := Lib.hid hsz
   clear hA hB hsz
   by_cases hlt : j < 16
   · have hcell : wr.cell? ⟨w.heap.size + 1, j, none⟩ = some (.int .u32 0) := by
       rw [cell_of_row _ _ _ _ _ _ HB.out, tabA_get _ _ hlt, if_neg (by omega)]
     have hfree : wr.frozen? ⟨w.heap.size + 1, j, none⟩ = false := frozen_of_row _ _ _ _ _ HB.out
     go_wp2_with (go_at_call 264; refine (shift_any _ _ _ (by omega) (by omega) (by omega) (by omega)).mono ?_; rintro e w' ⟨rfl, rfl⟩)
     go_roundw
     case rel => exact ⟨j + 1, by omega, by go_num, by rw [heap_setCell_other _ _ _ _ (by simp)]; exact HA.out, by rw [heap_setCell_same _ _ _ _ _ _ HB.out, tabA_set], hbel.setCell (by simp) _, by simp [World.setCell]; exact HS.out⟩
     case measure => simp [intOf]; omega
   · have hj16 : j = 16 := by omega
     subst hj16
     go_wp2_with (first | (refine wpList_load_row rfl _ _ rfl (w.heap.size + 1) rfl 284 (tabA 16) (0, 0) _ HB.out underlying40 rfl (by rw [size40, tabA_size]) ?_) | (refine wpList_store_row rfl _ _ _ rfl w.heap.size (tabA 16) rfl rfl 284 (tabA 0) HA.out (by rw [size40, tabA_size]) (by rw [tabA_size, tabA_size]) (tabA_one 16) ?_))
     exact bodyPost_ret (v := .agg (tabA 16)) (results_cell_row rfl _ _ w.heap.size 284 (tabA 16) (0, 0) _ rfl (setRow_heap _ _ _ _ _ _ HA.out) underlying40 rfl (by rw [size40, tabA_size])) rfl ⟨rfl, below_setRow hbel (by omega) _⟩

def Cs.stepI (r b : Int) : Int := N ((B r >>> 4) ^^^ Crc.shn 4 ((B r ^^^ B b) &&& 15#32))

set_option maxHeartbeats 400000 in
theorem Cs.step_any (b r : Int) (p : Addr) (g : Nat) (w : World) (h0 : 0 ≤ r) (h1 : r ≤ 4294967295)
   (hx : w.cell? p = some (.int .u32 r)) (hfz : w.frozen? p = false) (hg : w.heap[g]? = some (.cells (tabA 16) 284 (0, 0))) :
   Calls Tryz.prog 251 #[.int .u32 b, .pointer (some p), .pointer (some ⟨g, 0, none⟩)] w fun e w' => e = .returned (.tuple #[]) ∧ w' = (w.setCell p (.int .u32 (stepI r b))).drew := by
 have HG := Lib.hid hg
 clear hg
 have hi : ∃ i : Nat, i < 16 ∧ bits .and .u32 (bits .xor .u32 r b) 15 = (i : Int) ∧ ((B r ^^^ B b) &&& 15#32) = B i := by
   refine ⟨((B r ^^^ B b) &&& 15#32).toNat, ?_, ?_, ?_⟩
   · have : ((B r ^^^ B b) &&& 15#32).toNat ≤ (15#32 : BitVec 32).toNat := by rw [BitVec.toNat_and]; exact Nat.and_le_right
     have e : (15#32 : BitVec 32).toNat = 15 := rfl
     omega
   · rw [bits_and, bits_xor, B_N]; rfl
   · have e : ∀ v : BitVec 32, v = B (v.toNat : Int) := fun v => (B_N v).symm
     exact e _
 obtain ⟨i, hi16, hi2, hi3⟩ := hi
 have hcell : w.cell? ⟨g, i, none⟩ = some (.int .u32 (N (Crc.shn 4 (B i)))) := by
   rw [cell_of_row _ _ _ _ _ _ HG.out, tabA_get _ _ hi16, if_pos hi16]
 have HI := Lib.hid hi3
 clear hi3
 go_enter Tryz.func251, Tryz.ntmps251
 go_region
 go_end0
 refine ⟨rfl, ?_⟩
 rw [bits_xor, B_N, show r / 16 = r / (2 ^ 4 : Nat) from rfl, B_div r 4 h0 h1, ← HI.out]; rfl

/-- Two steps of four bits are one byte. -/
theorem Cs.step_two (c : BitVec 32) (b : UInt8) : stepI (stepI (N c) (bits .and .u32 (b.toNat : Int) 15)) ((b.toNat : Int) / 16) = N (Crc.shn 8 (c ^^^ Crc.bv8 b)) := by
 have hb := b.toNat_lt
 have e1 : B (b.toNat : Int) = Crc.bv8 b := by unfold B Crc.bv8; rw [BitVec.ofInt_natCast]
 have e2 : B ((b.toNat : Int) / 16) = Crc.bv8 b >>> 4 := by
   rw [show (b.toNat : Int) / 16 = (b.toNat : Int) / (2 ^ 4 : Nat) from rfl, B_div _ 4 (by omega) (by omega), e1]
 have h15 : B 15 = 15#32 := rfl
 unfold stepI
 rw [B_N, B_N, bits_and, B_N, e1, e2, h15, Crc.byte_two]
 have hl : (Crc.bv8 b &&& 15#32).toNat < 16 := by
   have : (Crc.bv8 b &&& 15#32).toNat ≤ (15#32 : BitVec 32).toNat := by rw [BitVec.toNat_and]; exact Nat.and_le_right
   have e : (15#32 : BitVec 32).toNat = 15 := rfl
   omega
 rw [← Crc.quarter c _ hl]
 rw [Crc.quarter _ (Crc.bv8 b >>> 4) (by rw [BitVec.toNat_ushiftRight, Nat.shiftRight_eq_div_pow, Crc.bv8_toNat]; omega)]

theorem Cs.take_snoc (s : ByteArray) (k : Nat) (h : k < s.size) : s.data.toList.take (k + 1) = s.data.toList.take k ++ [s[k]] := by
 rw [List.take_succ_eq_append_getElem (by simpa using h)]; rfl
theorem Cs.run_step (s : ByteArray) (k : Nat) (h : k < s.size) (c : BitVec 32) : Crc.run c (s.data.toList.take (k + 1)) = Crc.shn 8 (Crc.run c (s.data.toList.take k) ^^^ Crc.bv8 s[k]) := by
 rw [take_snoc s k h, Crc.run_snoc]

theorem Cs.not32 (x : Int) : bits .xor .u32 4294967295 x = N (~~~ B x) := by
 rw [bits_xor, show B 4294967295 = BitVec.allOnes 32 from rfl, BitVec.allOnes_xor]

set_option maxHeartbeats 1000000 in
theorem Cs.update_any (c : Int) (s : ByteArray) (w : World) (hs : s.size ≤ maxLen) :
   Calls Tryz.prog 226 #[.int .u32 c, .string s] w fun e w' => e = .returned (.int .u32 (N (Crc.upd (B c) s.data.toList))) ∧ Below w.heap.size w w' := by
 unfold maxLen at hs
 go_enter Tryz.func226, Tryz.ntmps226
 go_wp2_with (first | (go_at_call 250; refine (table_any _).mono ?_; rintro e w1 ⟨rfl, hb⟩) | (refine wpList_store_row rfl _ _ _ rfl w1.heap.size (tabA 16) rfl rfl 284 _ (heap_alloc_new _ _) (by rw [size40, tabA_size]) (by rw [tabA_size]; rfl) (tabA_one 16) ?_))
 have hle := hb.size
 go_loopw [8] (fun i wr => ∃ (j : Nat) (r : Int), j ≤ s.size ∧ i = .int .i64 j ∧ r = N (Crc.run (~~~ B c) (s.data.toList.take j)) ∧ wr.heap[w1.heap.size]? = some (.cells (tabA 16) 284 (0, 0)) ∧ wr.heap[w1.heap.size + 1]? = some (.cells #[.int .u32 r] 162 (0, 0)) ∧ Below w.heap.size w wr) (fun i _ => s.size - (intOf i).toNat)
 case atStart =>
   refine ⟨0, bits BinOp.xor IntKind.u32 IntKind.u32.max c, by omega, rfl, ?_, ?_, ?_, ?_⟩
   rotate_left 1
   · rw [heap_alloc_old]
     · exact setRow_heap _ _ _ _ _ _ (heap_alloc_new _ _)
     · simp
   · have := heap_alloc_new ((w1.alloc (Obj.cells (tabA 0) 284)).setRow w1.heap.size (tabA 16)) (Obj.cells #[Value.int IntKind.u32 (bits BinOp.xor IntKind.u32 IntKind.u32.max c)] 162)
     simp only [size_setRow, World.size_alloc] at this
     exact this
   · exact (below_setRow (hb.alloc (by omega) _) (by omega) _).alloc (by simp; omega) _
   · show bits BinOp.xor IntKind.u32 4294967295 c = _
     rw [not32]; rfl
 case round =>
   obtain ⟨j, r, hj, rfl, hr, hA, hB, hbel⟩ := hrel
   have HA := Lib.hid hA
   have HB := Lib.hid hB
   have HR := Lib.hid hr
   have hr0 : 0 ≤ r := by rw [hr]; exact N_lo _
   have hr1 : r ≤ 4294967295 := by rw [hr]; exact N_hi _
   clear hA hB hr
   by_cases hlt : j < s.size
   · have hcell : wr.cell? ⟨w1.heap.size + 1, 0, none⟩ = some (.int .u32 r) := cell_of_one HB.out
     have hfree : wr.frozen? ⟨w1.heap.size + 1, 0, none⟩ = false := free_of_one HB.out
     have hbj : ((s[j].toNat : Nat) : Int) ≤ 255 := by have := s[j].toNat_lt; omega
     have E := Lib.hid (step_two (Crc.run (~~~ B c) (s.data.toList.take j)) s[j])
     go_wp2_with fail
     refine (step_any _ r _ _ _ hr0 hr1 hcell hfree HA.out).mono ?_
     rintro e w2 ⟨rfl, rfl⟩
     have q0 : 0 ≤ stepI r (bits .and .u32 (s[j].toNat : Int) 15) := N_lo _
     have q1 : stepI r (bits .and .u32 (s[j].toNat : Int) 15) ≤ 4294967295 := N_hi _
     have HA2 : Hid ((wr.setCell ⟨w1.heap.size + 1, 0, none⟩ (.int .u32 (stepI r (bits .and .u32 (s[j].toNat : Int) 15)))).drew.heap[w1.heap.size]? = some (.cells (tabA 16) 284 (0, 0))) :=
       (heap_setCell_other _ _ _ _ (by simp)).trans HA.out
     have HB2 : Hid ((wr.setCell ⟨w1.heap.size + 1, 0, none⟩ (.int .u32 (stepI r (bits .and .u32 (s[j].toNat : Int) 15)))).drew.heap[w1.heap.size + 1]? = some (.cells #[.int .u32 (stepI r (bits .and .u32 (s[j].toNat : Int) 15))] 162 (0, 0))) := one_setCell HB.out
     go_wp2_with fail
     refine (step_any _ (stepI r (bits .and .u32 (s[j].toNat : Int) 15)) _ _ _ q0 q1 (cell_of_one HB2.out) (free_of_one HB2.out) HA2.out).mono ?_
     rintro e w2 ⟨rfl, rfl⟩
     go_wp2_with fail
     go_roundw
     case rel =>
       refine ⟨j + 1, stepI (stepI r (bits .and .u32 (s[j].toNat : Int) 15)) ((s[j].toNat : Int) / 16), by omega, by go_num, ?_, ?_, ?_, ?_⟩
       rotate_left 1
       · exact (heap_setCell_other _ _ _ _ (by simp)).trans HA2.out
       · exact one_setCell HB2.out
       · exact (((hbel.setCell (by simp; omega) _).drew).setCell (by simp; omega) _).drew
       · rw [HR.out, E.out, run_step s j hlt]
     case measure => simp [intOf]; omega
   · have hjs : j = s.size := by omega
     subst hjs
     have hcell : wr.cell? ⟨w1.heap.size + 1, 0, none⟩ = some (.int .u32 r) := cell_of_one HB.out
     go_wp2_with fail
     go_ret
     refine ⟨ret_int ?_, hbel⟩
     show bits BinOp.xor IntKind.u32 4294967295 r = _
     rw [not32, HR.out, B_N, List.take_of_length_le (by simp)]; rfl
end

section
open Go.RowKit Go.Sort

set_option maxHeartbeats 400000 in
theorem Cs.sum_any (s : ByteArray) (w : World) (hs : s.size ≤ maxLen) :
   Calls Tryz.prog 199 #[.string s] w fun e w' => e = .returned (.int .u32 (N (Crc.sum s.data.toList))) ∧ Below w.heap.size w w' := by
 go_enter Tryz.func199, Tryz.ntmps199
 go_wp2_with (go_at_call 226; refine (update_any _ _ _ hs).mono ?_; rintro e w1 ⟨rfl, hb⟩)
 go_ret
 exact ⟨rfl, hb⟩

theorem Cs.underlying45 : Tryz.prog.underlying 109 = some (.slice 5) := by kernel_rfl
theorem Cs.underlying5 : Tryz.prog.underlying 5 = some (.int .u8) := by kernel_rfl
theorem Cs.underlying9 : Tryz.prog.underlying 9 = some .string := by kernel_rfl

/-- The four bytes of a word, as a string. -/
def Cs.bstr (r : BitVec 32) : ByteArray := ⟨(Crc.bytes r).toArray⟩
theorem Cs.bstr_size (r : BitVec 32) : (bstr r).size = 4 := rfl

/-- The numbers of a word's four bytes, as the walk has them. -/
def Cs.four (x : Int) : List Int := [x % 256, x / 256 % 256, x / 65536 % 256, x / 16777216]
theorem Cs.four_str (x : Int) (h0 : 0 ≤ x) (h1 : x ≤ 4294967295) : strOfNums (four x) = bstr (B x) := by
 obtain ⟨n, rfl⟩ := Int.eq_ofNat_of_zero_le h0
 unfold strOfNums four bstr Crc.bytes
 simp only [List.map]
 have e : (B (n : Int)).toNat = n := by unfold B; rw [BitVec.ofInt_natCast, BitVec.toNat_ofNat]; omega
 rw [e]
 congr 2
 simp only [List.cons.injEq, and_true]
 refine ⟨?_, ?_, ?_, ?_⟩ <;> (apply UInt8.toNat_inj.1; simp; try omega)

set_option maxHeartbeats 400000 in
theorem Cs.conv_four (x : Int) (w : World) : (convert 109 9 (.slice (some ⟨w.heap.size, 0, none⟩) 4 4)).run Tryz.prog
   (w.alloc (.cells #[.int .u8 (x % 256), .int .u8 (x / 256 % 256), .int .u8 (x / 65536 % 256), .int .u8 (x / 16777216)] 5)) =
   .ok (.string (strOfNums (four x))) (w.alloc (.cells #[.int .u8 (x % 256), .int .u8 (x / 256 % 256), .int .u8 (x / 65536 % 256), .int .u8 (x / 16777216)] 5)) := by
 refine run_convert_bytes_arg (P := Tryz.prog) _ 109 5 underlying45 underlying5 w.heap.size 0 4 4 (four x) rfl ?_ 9 underlying9
 intro i hi
 rw [cell_of_row _ _ _ _ _ _ (heap_alloc_new _ _)]
 have : i = 0 ∨ i = 1 ∨ i = 2 ∨ i = 3 := by omega
 rcases this with rfl | rfl | rfl | rfl <;> rfl

theorem Cs.ret_str {a b : ByteArray} (h : a = b) : Ending.returned (.string a) = .returned (.string b) := by rw [h]

set_option maxHeartbeats 400000 in
theorem Cs.bytes_any (x : Int) (w : World) (h0 : 0 ≤ x) (h1 : x ≤ 4294967295) :
   Calls Tryz.prog 198 #[.int .u32 x] w fun e w' => e = .returned (.string (bstr (B x))) ∧ Below w.heap.size w w' := by
 have hcv := conv_four x w
 have H := Lib.hid (four_str x h0 h1)
 go_enter Tryz.func198, Tryz.ntmps198
 go_wp2
 go_ret
 exact ⟨ret_str H.out, (Below.refl _ _).alloc (by simp) _⟩

/-- The sealed text. -/
def Cs.tailB (s : ByteArray) : ByteArray := bstr (Crc.sum s.data.toList)
theorem Cs.tailB_N (s : ByteArray) : bstr (B (N (Crc.sum s.data.toList))) = tailB s := by rw [B_N]; rfl

set_option maxHeartbeats 400000 in
theorem Cs.sealed_any (s : ByteArray) (w : World) (hs : s.size ≤ 1000) :
   Calls Tryz.prog 161 #[.string s] w fun e w' => e = .returned (.string (s ++ tailB s)) ∧ Below w.heap.size w w' := by
 have hsz : s.size ≤ maxLen := by unfold maxLen; omega
 have b0 := N_lo (Crc.sum s.data.toList)
 have b1 := N_hi (Crc.sum s.data.toList)
 have b4 : (bstr (B (N (Crc.sum s.data.toList)))).size ≤ 4 := by rw [bstr_size]; omega
 go_enter Tryz.func161, Tryz.ntmps161
 go_wp2_with (first | (go_at_call 199; refine (sum_any _ _ hsz).mono ?_; rintro e w1 ⟨rfl, hb⟩) | (go_at_call 198; refine (bytes_any _ _ b0 b1).mono ?_; rintro e w2 ⟨rfl, hb2⟩))
 go_ret
 exact ⟨ret_str (by rw [tailB_N]), hb.trans (hb2.mono hb.size)⟩
end

section
open Go.RowKit

/-- The number at the front of bytes and how many it has; 0 for none. -/
def decG : Nat → Nat → Nat → By → Nat × Nat
 | 0, _, _, _ => (0, 0)
 | _ + 1, _, _, [] => (0, 0)
 | f + 1, i, n, b :: r =>
   if i = 9 ∧ 1 < b.toNat then (0, 0)
   else if b.toNat < 128 then (if b.toNat = 0 ∧ 0 < i then (0, 0) else (n + b.toNat % 128 * 2 ^ (7 * i), i + 1))
   else decG f (i + 1) (n + b.toNat % 128 * 2 ^ (7 * i)) r
def decV (s : By) : Nat × Nat := decG 10 0 0 s

theorem or_add (n x k : Nat) (h : n < 2 ^ k) : n ||| (x * 2 ^ k) = n + x * 2 ^ k := by
 rw [Nat.or_comm, Nat.mul_comm, ← Nat.two_pow_add_eq_or_of_lt h]; omega
theorem and127 (b : UInt8) : bits .and .u8 (b.toNat : Int) 127 = ((b.toNat % 128 : Nat) : Int) := by
 have key : ∀ x : Fin 256, bits .and .u8 ((x.val : Nat) : Int) 127 = ((x.val % 128 : Nat) : Int) := by decide +kernel
 exact key ⟨b.toNat, b.toNat_lt⟩

theorem dec_or (n j : Nat) (b : UInt8) (hn : n < 2 ^ (7 * j)) (h64 : n < 18446744073709551616) (hx : b.toNat % 128 * 2 ^ (7 * j) < 18446744073709551616) :
   bits .or .u64 (n : Int) (IntKind.u64.wrap (IntKind.u64.wrap (bits .and .u8 (b.toNat : Int) 127) * 2 ^ (7 * j))) = ((n + b.toNat % 128 * 2 ^ (7 * j) : Nat) : Int) := by
 have h1 : IntKind.u64.wrap ((b.toNat % 128 : Nat) : Int) = ((b.toNat % 128 : Nat) : Int) := by rw [IntKind.wrap_u64]; omega
 have h2 : ((b.toNat % 128 : Nat) : Int) * 2 ^ (7 * j) = ((b.toNat % 128 * 2 ^ (7 * j) : Nat) : Int) := by rw [Int.natCast_mul, Int.natCast_pow]; rfl
 rw [and127, h1, h2]
 have h3 : IntKind.u64.wrap ((b.toNat % 128 * 2 ^ (7 * j) : Nat) : Int) = ((b.toNat % 128 * 2 ^ (7 * j) : Nat) : Int) := by
   generalize b.toNat % 128 * 2 ^ (7 * j) = X at hx; rw [IntKind.wrap_u64]; omega
 rw [h3, bits_or_u64_nat _ _ h64 hx, or_add _ _ _ hn]
theorem dec_bound (n j x : Nat) (hn : n < 2 ^ (7 * j)) (hx : x < 128) : n + x * 2 ^ (7 * j) < 2 ^ (7 * (j + 1)) := by
 have e : 2 ^ (7 * (j + 1)) = 128 * 2 ^ (7 * j) := by rw [show 7 * (j + 1) = 7 * j + 7 by omega, Nat.pow_add]; omega
 have h : (x + 1) * 2 ^ (7 * j) ≤ 128 * 2 ^ (7 * j) := Nat.mul_le_mul_right _ (by omega)
 rw [Nat.add_mul] at h
 omega
theorem dec_small (j : Nat) (hj : j ≤ 9) : 2 ^ (7 * j) ≤ 9223372036854775808 := by
 have h : 2 ^ (7 * j) ≤ 2 ^ 63 := Nat.pow_le_pow_right (by omega) (by omega)
 simpa using h

set_option maxRecDepth 100000 in
set_option maxHeartbeats 2000000 in
theorem decode_any (s : By) (w : World) (hs : s.length ≤ 1000000) :
   Calls Tryz.prog 238 #[.string ⟨s.toArray⟩] w fun e w' => e = .returned (.tuple #[.int .u64 (decV s).1, .int .i64 (decV s).2]) ∧ w = w' := by
 generalize hV0 : decV s = V
 have HV0 := Lib.hid (show V = decG 10 0 0 (s.drop 0) from hV0.symm)
 clear hV0
 go_enter Tryz.func238, Tryz.ntmps238
 go_wp2_with fail
 go_loop [4, 5, 6] (fun a k _ => ∃ j n : Nat, j ≤ s.length ∧ j ≤ 10 ∧ k = .int .i64 j ∧ a = .int .u64 n ∧ (j ≤ 9 → n < 2 ^ (7 * j)) ∧ n < 18446744073709551616 ∧ V = decG (10 - j) j n (s.drop j)) (fun _ k _ => 10 - (intOf k).toNat)
 case atStart => exact ⟨0, 0, by omega, by omega, rfl, rfl, by simp, by omega, HV0.out⟩
 case round =>
   obtain ⟨j, n, hj, hj10, rfl, rfl, hn, hn64, hV⟩ := hrel
   by_cases hlt : j < s.length
   · by_cases h10 : j < 10
     · rw [List.drop_eq_getElem_cons hlt, show 10 - j = (10 - (j + 1)) + 1 by omega, decG] at hV
       have hbg : (ByteArray.mk s.toArray)[j]'(by simpa [ByteArray.size] using hlt) = s[j] := rfl
       generalize s[j] = b at hV hbg
       have hb8 : b.toNat < 256 := b.toNat_lt
       have hn := hn (by omega)
       have hps := dec_small j (by omega)
       by_cases hbig : b.toNat < 128
       · by_cases h9 : j = 9
         · subst h9
           by_cases h1 : 1 < b.toNat
           · rw [if_pos ⟨rfl, h1⟩] at hV
             have HV := Lib.hid hV
             clear hV hn hps
             have h1I : (1 : Int) < (b.toNat : Int) := by omega
             go_wp2_with fail
             go_ret2
             exact ⟨by rw [HV.out]; rfl, rfl⟩
           · rw [if_neg (fun h => h1 h.2), if_pos hbig] at hV
             have h1I : ¬ (1 : Int) < (b.toNat : Int) := by omega
             have h2I : (b.toNat : Int) < 128 := by omega
             by_cases h0 : b.toNat = 0
             · rw [if_pos ⟨h0, by omega⟩] at hV
               have HV := Lib.hid hV
               have e0 : ((b.toNat : Int) == 0) = true := by rw [h0]; rfl
               clear hV hn hps h0
               go_wp2_with fail
               go_ret2
               exact ⟨by rw [HV.out]; rfl, rfl⟩
             · rw [if_neg (fun h => h0 h.1)] at hV
               have HV := Lib.hid hV
               have e0 : ((b.toNat : Int) == 0) = false := by simp; omega
               have HR := Lib.hid (dec_or n 9 b hn hn64 (by have : b.toNat = 1 := by omega
                                                            rw [this]; decide))
               clear hV hn hps h0
               go_wp2_with fail
               go_ret2
               have h := HR.out
               rw [show (2 : Int) ^ (7 * 9) = 9223372036854775808 by decide] at h
               exact ⟨by rw [h, HV.out]; rfl, rfl⟩
         · have e9 : ((j : Int) == 9) = false := by simp; omega
           rw [if_neg (fun h => h9 h.1), if_pos hbig] at hV
           have h2I : (b.toNat : Int) < 128 := by omega
           have hx : b.toNat % 128 * 2 ^ (7 * j) < 18446744073709551616 := by
             have hp : 2 ^ (7 * j) ≤ 2 ^ 56 := Nat.pow_le_pow_right (by omega) (by omega)
             have : b.toNat % 128 * 2 ^ (7 * j) ≤ 127 * 2 ^ 56 := Nat.mul_le_mul (by omega) hp
             omega
           by_cases h0 : b.toNat = 0 ∧ 0 < j
           · rw [if_pos h0] at hV
             have HV := Lib.hid hV
             have e0 : ((b.toNat : Int) == 0) = true := by rw [h0.1]; rfl
             have ej : (0 : Int) < (j : Int) := by omega
             clear hV hn hps h0 hx h9
             go_wp2_with fail
             go_ret2
             exact ⟨by rw [HV.out]; rfl, rfl⟩
           · rw [if_neg h0] at hV
             have HV := Lib.hid hV
             have HR := Lib.hid (dec_or n j b hn hn64 hx)
             by_cases hz : b.toNat = 0
             · have e0 : ((b.toNat : Int) == 0) = true := by rw [hz]; rfl
               have ej : ¬ (0 : Int) < (j : Int) := by omega
               clear hV hn hps h0 hx h9 hz
               go_wp2_with fail
               go_ret2
               exact ⟨by rw [HR.out, HV.out]; rfl, rfl⟩
             · have e0 : ((b.toNat : Int) == 0) = false := by simp; omega
               clear hV hn hps h0 hx h9 hz
               go_wp2_with fail
               go_ret2
               exact ⟨by rw [HR.out, HV.out]; rfl, rfl⟩
       · have h2I : ¬ (b.toNat : Int) < 128 := by omega
         by_cases h9 : j = 9
         · subst h9
           rw [if_pos ⟨rfl, by omega⟩] at hV
           have HV := Lib.hid hV
           have h1I : (1 : Int) < (b.toNat : Int) := by omega
           clear hV hn hps
           go_wp2_with fail
           go_ret2
           exact ⟨by rw [HV.out]; rfl, rfl⟩
         · have e9 : ((j : Int) == 9) = false := by simp; omega
           rw [if_neg (fun h => h9 h.1), if_neg hbig] at hV
           have hx : b.toNat % 128 * 2 ^ (7 * j) < 18446744073709551616 := by
             have hp : 2 ^ (7 * j) ≤ 2 ^ 56 := Nat.pow_le_pow_right (by omega) (by omega)
             have : b.toNat % 128 * 2 ^ (7 * j) ≤ 127 * 2 ^ 56 := Nat.mul_le_mul (by omega) hp
             omega
           have HBD := Lib.hid (dec_bound n j (b.toNat % 128) hn (by omega))
           have HB2 := Lib.hid (show n + b.toNat % 128 * 2 ^ (7 * j) < 18446744073709551616 by
             have h3 := dec_small (j + 1) (by omega)
             have h4 := HBD.out
             generalize n + b.toNat % 128 * 2 ^ (7 * j) = X at h4 ⊢
             omega)
           have HV := Lib.hid hV
           have HR := Lib.hid (dec_or n j b hn hn64 hx)
           clear hV hn hps hx
           go_wp2_with fail
           go_round
           case rel => exact ⟨j + 1, n + b.toNat % 128 * 2 ^ (7 * j), by omega, by omega, by go_num, by rw [HR.out], fun _ => HBD.out, HB2.out, HV.out⟩
           case measure => simp [intOf]; omega
     · obtain rfl : j = 10 := by omega
       have HV := Lib.hid (show V = (0, 0) from hV)
       clear hV hn
       go_wp2_with fail
       go_ret2
       exact ⟨by rw [HV.out]; rfl, rfl⟩
   · rw [List.drop_eq_nil_of_le (by omega)] at hV
     have HV := Lib.hid (show V = (0, 0) by rw [hV]; cases 10 - j <;> rfl)
     clear hV hn
     go_wp2_with fail
     all_goals
       go_ret2
       exact ⟨by rw [HV.out]; rfl, rfl⟩
end

end Go.Proofs.YtckpepfkfjdnhaaGreatDoor

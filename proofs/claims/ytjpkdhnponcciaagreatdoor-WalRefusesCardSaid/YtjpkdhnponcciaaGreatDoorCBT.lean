/-
  Walks: the number at the front of bytes.
-/
import Derived.Test.YtjpkdhnponcciaaGreatDoorCZ1
import Derived.Laws.Bits64b
import Derived.Laws.Shifts
namespace Go.Proofs.YtjpkdhnponcciaaGreatDoor
open Go.RowKit

/-- The number at the front of bytes and how many it has; 0 for none. -/
def decG : Nat → Nat → Nat → By → Nat × Nat
 | 0, _, _, _ => (0, 0)
 | _ + 1, _, _, [] => (0, 0)
 | f + 1, i, n, b :: r =>
   if i = 9 ∧ 1 < b.toNat then (0, 0)
   else if b.toNat < 128 then (if b.toNat = 0 ∧ 0 < i then (0, 0) else (n + b.toNat % 128 * 2 ^ (7 * i), i + 1))
   else decG f (i + 1) (n + b.toNat % 128 * 2 ^ (7 * i)) r
def decV (s : By) : Nat × Nat := decG 10 0 0 s

theorem or_add (n x k : Nat) (h : n < 2 ^ k) : n ||| (x * 2 ^ k) = n + x * 2 ^ k := by
 rw [Nat.or_comm, Nat.mul_comm, ← Nat.two_pow_add_eq_or_of_lt h]; omega
theorem and127 (b : UInt8) : bits .and .u8 (b.toNat : Int) 127 = ((b.toNat % 128 : Nat) : Int) := by
 have key : ∀ x : Fin 256, bits .and .u8 ((x.val : Nat) : Int) 127 = ((x.val % 128 : Nat) : Int) := by decide +kernel
 exact key ⟨b.toNat, b.toNat_lt⟩

theorem dec_or (n j : Nat) (b : UInt8) (hn : n < 2 ^ (7 * j)) (h64 : n < 18446744073709551616) (hx : b.toNat % 128 * 2 ^ (7 * j) < 18446744073709551616) :
   bits .or .u64 (n : Int) (IntKind.u64.wrap (IntKind.u64.wrap (bits .and .u8 (b.toNat : Int) 127) * 2 ^ (7 * j))) = ((n + b.toNat % 128 * 2 ^ (7 * j) : Nat) : Int) := by
 have h1 : IntKind.u64.wrap ((b.toNat % 128 : Nat) : Int) = ((b.toNat % 128 : Nat) : Int) := by rw [IntKind.wrap_u64]; omega
 have h2 : ((b.toNat % 128 : Nat) : Int) * 2 ^ (7 * j) = ((b.toNat % 128 * 2 ^ (7 * j) : Nat) : Int) := by rw [Int.natCast_mul, Int.natCast_pow]; rfl
 rw [and127, h1, h2]
 have h3 : IntKind.u64.wrap ((b.toNat % 128 * 2 ^ (7 * j) : Nat) : Int) = ((b.toNat % 128 * 2 ^ (7 * j) : Nat) : Int) := by
   generalize b.toNat % 128 * 2 ^ (7 * j) = X at hx; rw [IntKind.wrap_u64]; omega
 rw [h3, bits_or_u64_nat _ _ h64 hx, or_add _ _ _ hn]
theorem dec_bound (n j x : Nat) (hn : n < 2 ^ (7 * j)) (hx : x < 128) : n + x * 2 ^ (7 * j) < 2 ^ (7 * (j + 1)) := by
 have e : 2 ^ (7 * (j + 1)) = 128 * 2 ^ (7 * j) := by rw [show 7 * (j + 1) = 7 * j + 7 by omega, Nat.pow_add]; omega
 have h : (x + 1) * 2 ^ (7 * j) ≤ 128 * 2 ^ (7 * j) := Nat.mul_le_mul_right _ (by omega)
 rw [Nat.add_mul] at h
 omega
theorem dec_small (j : Nat) (hj : j ≤ 9) : 2 ^ (7 * j) ≤ 9223372036854775808 := by
 have h : 2 ^ (7 * j) ≤ 2 ^ 63 := Nat.pow_le_pow_right (by omega) (by omega)
 simpa using h

set_option maxRecDepth 100000 in
set_option maxHeartbeats 2000000 in
theorem decode_any (s : By) (w : World) (hs : s.length ≤ 1000000) :
   Calls Tryz.prog 192 #[.string ⟨s.toArray⟩] w fun e w' => e = .returned (.tuple #[.int .u64 (decV s).1, .int .i64 (decV s).2]) ∧ w = w' := by
 generalize hV0 : decV s = V
 have HV0 := Lib.hid (show V = decG 10 0 0 (s.drop 0) from hV0.symm)
 clear hV0
 go_enter Tryz.func192, Tryz.ntmps192
 go_wp2_with fail
 go_loop [4, 5, 6] (fun a k _ => ∃ j n : Nat, j ≤ s.length ∧ j ≤ 10 ∧ k = .int .i64 j ∧ a = .int .u64 n ∧ (j ≤ 9 → n < 2 ^ (7 * j)) ∧ n < 18446744073709551616 ∧ V = decG (10 - j) j n (s.drop j)) (fun _ k _ => 10 - (intOf k).toNat)
 case atStart => exact ⟨0, 0, by omega, by omega, rfl, rfl, by simp, by omega, HV0.out⟩
 case round =>
   obtain ⟨j, n, hj, hj10, rfl, rfl, hn, hn64, hV⟩ := hrel
   by_cases hlt : j < s.length
   · by_cases h10 : j < 10
     · rw [List.drop_eq_getElem_cons hlt, show 10 - j = (10 - (j + 1)) + 1 by omega, decG] at hV
       have hbg : (ByteArray.mk s.toArray)[j]'(by simpa [ByteArray.size] using hlt) = s[j] := rfl
       generalize s[j] = b at hV hbg
       have hb8 : b.toNat < 256 := b.toNat_lt
       have hn := hn (by omega)
       have hps := dec_small j (by omega)
       by_cases hbig : b.toNat < 128
       · by_cases h9 : j = 9
         · subst h9
           by_cases h1 : 1 < b.toNat
           · rw [if_pos ⟨rfl, h1⟩] at hV
             have HV := Lib.hid hV
             clear hV hn hps
             have h1I : (1 : Int) < (b.toNat : Int) := by omega
             go_wp2_with fail
             go_ret2
             exact ⟨by rw [HV.out]; rfl, rfl⟩
           · rw [if_neg (fun h => h1 h.2), if_pos hbig] at hV
             have h1I : ¬ (1 : Int) < (b.toNat : Int) := by omega
             have h2I : (b.toNat : Int) < 128 := by omega
             by_cases h0 : b.toNat = 0
             · rw [if_pos ⟨h0, by omega⟩] at hV
               have HV := Lib.hid hV
               have e0 : ((b.toNat : Int) == 0) = true := by rw [h0]; rfl
               clear hV hn hps h0
               go_wp2_with fail
               go_ret2
               exact ⟨by rw [HV.out]; rfl, rfl⟩
             · rw [if_neg (fun h => h0 h.1)] at hV
               have HV := Lib.hid hV
               have e0 : ((b.toNat : Int) == 0) = false := by simp; omega
               have HR := Lib.hid (dec_or n 9 b hn hn64 (by have : b.toNat = 1 := by omega
                                                            rw [this]; decide))
               clear hV hn hps h0
               go_wp2_with fail
               go_ret2
               have h := HR.out
               rw [show (2 : Int) ^ (7 * 9) = 9223372036854775808 by decide] at h
               exact ⟨by rw [h, HV.out]; rfl, rfl⟩
         · have e9 : ((j : Int) == 9) = false := by simp; omega
           rw [if_neg (fun h => h9 h.1), if_pos hbig] at hV
           have h2I : (b.toNat : Int) < 128 := by omega
           have hx : b.toNat % 128 * 2 ^ (7 * j) < 18446744073709551616 := by
             have hp : 2 ^ (7 * j) ≤ 2 ^ 56 := Nat.pow_le_pow_right (by omega) (by omega)
             have : b.toNat % 128 * 2 ^ (7 * j) ≤ 127 * 2 ^ 56 := Nat.mul_le_mul (by omega) hp
             omega
           by_cases h0 : b.toNat = 0 ∧ 0 < j
           · rw [if_pos h0] at hV
             have HV := Lib.hid hV
             have e0 : ((b.toNat : Int) == 0) = true := by rw [h0.1]; rfl
             have ej : (0 : Int) < (j : Int) := by omega
             clear hV hn hps h0 hx h9
             go_wp2_with fail
             go_ret2
             exact ⟨by rw [HV.out]; rfl, rfl⟩
           · rw [if_neg h0] at hV
             have HV := Lib.hid hV
             have HR := Lib.hid (dec_or n j b hn hn64 hx)
             by_cases hz : b.toNat = 0
             · have e0 : ((b.toNat : Int) == 0) = true := by rw [hz]; rfl
               have ej : ¬ (0 : Int) < (j : Int) := by omega
               clear hV hn hps h0 hx h9 hz
               go_wp2_with fail
               go_ret2
               exact ⟨by rw [HR.out, HV.out]; rfl, rfl⟩
             · have e0 : ((b.toNat : Int) == 0) = false := by simp; omega
               clear hV hn hps h0 hx h9 hz
               go_wp2_with fail
               go_ret2
               exact ⟨by rw [HR.out, HV.out]; rfl, rfl⟩
       · have h2I : ¬ (b.toNat : Int) < 128 := by omega
         by_cases h9 : j = 9
         · subst h9
           rw [if_pos ⟨rfl, by omega⟩] at hV
           have HV := Lib.hid hV
           have h1I : (1 : Int) < (b.toNat : Int) := by omega
           clear hV hn hps
           go_wp2_with fail
           go_ret2
           exact ⟨by rw [HV.out]; rfl, rfl⟩
         · have e9 : ((j : Int) == 9) = false := by simp; omega
           rw [if_neg (fun h => h9 h.1), if_neg hbig] at hV
           have hx : b.toNat % 128 * 2 ^ (7 * j) < 18446744073709551616 := by
             have hp : 2 ^ (7 * j) ≤ 2 ^ 56 := Nat.pow_le_pow_right (by omega) (by omega)
             have : b.toNat % 128 * 2 ^ (7 * j) ≤ 127 * 2 ^ 56 := Nat.mul_le_mul (by omega) hp
             omega
           have HBD := Lib.hid (dec_bound n j (b.toNat % 128) hn (by omega))
           have HB2 := Lib.hid (show n + b.toNat % 128 * 2 ^ (7 * j) < 18446744073709551616 by
             have h3 := dec_small (j + 1) (by omega)
             have h4 := HBD.out
             generalize n + b.toNat % 128 * 2 ^ (7 * j) = X at h4 ⊢
             omega)
           have HV := Lib.hid hV
           have HR := Lib.hid (dec_or n j b hn hn64 hx)
           clear hV hn hps hx
           go_wp2_with fail
           go_round
           case rel => exact ⟨j + 1, n + b.toNat % 128 * 2 ^ (7 * j), by omega, by omega, by go_num, by rw [HR.out], fun _ => HBD.out, HB2.out, HV.out⟩
           case measure => simp [intOf]; omega
     · obtain rfl : j = 10 := by omega
       have HV := Lib.hid (show V = (0, 0) from hV)
       clear hV hn
       go_wp2_with fail
       go_ret2
       exact ⟨by rw [HV.out]; rfl, rfl⟩
   · rw [List.drop_eq_nil_of_le (by omega)] at hV
     have HV := Lib.hid (show V = (0, 0) by rw [hV]; cases 10 - j <;> rfl)
     clear hV hn
     go_wp2_with fail
     all_goals
       go_ret2
       exact ⟨by rw [HV.out]; rfl, rfl⟩

end Go.Proofs.YtjpkdhnponcciaaGreatDoor

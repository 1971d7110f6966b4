/-
  The walk of the law on linearity.
-/
import Derived.Test.YtlpejbmckidacaaW9
namespace Go.Proofs.Ytlpejbmckidacaa
open Go.RowKit Go.Sort

/-- A string's first n bytes. -/
def hd (s : ByteArray) (n : Nat) : List UInt8 := s.data.toList.take n
theorem hd_length (s : ByteArray) (n : Nat) (h : n ≤ s.size) : (hd s n).length = n := by
  unfold hd; rw [List.length_take, Array.length_toList]; exact Nat.min_eq_left h
theorem hd_data (s : ByteArray) (n : Nat) : (s.extract 0 n).data.toList = hd s n := by
  unfold hd; simp [ByteArray.data_extract]
def xstr (l m : List UInt8) : ByteArray := ⟨(Crc.xorAt l 0 m).toArray⟩
theorem xstr_data (l m : List UInt8) : (xstr l m).data.toList = Crc.xorAt l 0 m := rfl
theorem xstr_size (l m : List UInt8) : (xstr l m).size = l.length := by
  show (Crc.xorAt l 0 m).toArray.size = _
  simp [Crc.xorAt_length]
theorem lin_eq (a b c : ByteArray) (n : Nat) (h1 : n ≤ a.size) (h2 : n ≤ b.size) (h3 : n ≤ c.size) :
    N (Crc.sum (Crc.xorAt (Crc.xorAt (hd a n) 0 (hd b n)) 0 (hd c n))) = bits .xor .u32 (bits .xor .u32 (N (Crc.sum (hd a n))) (N (Crc.sum (hd b n)))) (N (Crc.sum (hd c n))) := by
  rw [bits_xor, bits_xor, B_N, B_N, B_N, B_N, Crc.xorAt_zero, Crc.xorAt_zero, Crc.sum_xor3 _ _ _ (by rw [hd_length _ _ h1, hd_length _ _ h2]) (by rw [hd_length _ _ h2, hd_length _ _ h3])]

theorem hd_self (s : ByteArray) : s.data.toList = hd s s.size := by
  unfold hd
  rw [List.take_of_length_le]
  rw [Array.length_toList]; exact Nat.le_refl _
theorem size_list (s : ByteArray) : s.size = s.data.toList.length := by rw [Array.length_toList]; rfl
theorem sumg (s : ByteArray) (l : List UInt8) (w : World) (h : s.data.toList = l) (hs : l.length ≤ 300) :
    Calls Try.prog 12 #[.string s] w fun e w' => e = .returned (.int .u32 (N (Crc.sum l))) ∧ Below w.heap.size w w' := by
  subst h
  exact sum_any s w (by rw [size_list]; unfold maxLen; omega)
theorem xorg (s m : ByteArray) (l k : List UInt8) (w : World) (h1 : s.data.toList = l) (h2 : m.data.toList = k) (hs : l.length ≤ 300) (hm : k.length ≤ 300) :
    Calls Try.prog 16 #[.string s, .int .i64 0, .string m] w fun e w' => e = .returned (.string (xstr l k)) ∧ Below w.heap.size w w' := by
  subst h1 h2
  exact xor_any s m 0 w (by omega) (by omega) (by rw [size_list]; omega) (by rw [size_list]; omega)

set_option maxHeartbeats 1000000 in
theorem lawlinear (a b c : ByteArray) (w : World) (ha : a.size ≤ maxLen) (hb : b.size ≤ maxLen) (hc : c.size ≤ maxLen) :
    Calls Try.prog 4 #[.string a, .string b, .string c] w fun e w' => e = .returned (.bool true) ∧ Below w.heap.size w w' := by
  have ha' : a.size ≤ 9223372036854775807 := ha
  have hb' : b.size ≤ 9223372036854775807 := hb
  have hc' : c.size ≤ 9223372036854775807 := hc
  have hb0 := Below.refl w.heap.size w
  by_cases h : 300 < a.size
  · go_enter Try.func4, Try.ntmps4
    go_wp2_with (go_at_call 11; refine (via (awake_any _) (by assumption)).mono ?_; rintro e w1 ⟨rfl, hb1⟩)
    go_ret
    exact ⟨rfl, hb1⟩
  · have hdd : decide (300 < (a.size : Int)) = false := by simp; omega
    by_cases h2 : 300 < b.size
    · go_enter Try.func4, Try.ntmps4
      go_wp2_with (go_at_call 11; refine (via (awake_any _) (by assumption)).mono ?_; rintro e w1 ⟨rfl, hb1⟩)
      go_ret
      exact ⟨rfl, hb1⟩
    · have hd2 : decide (300 < (b.size : Int)) = false := by simp; omega
      by_cases h3 : 300 < c.size
      · go_enter Try.func4, Try.ntmps4
        go_wp2_with (go_at_call 11; refine (via (awake_any _) (by assumption)).mono ?_; rintro e w1 ⟨rfl, hb1⟩)
        go_ret
        exact ⟨rfl, hb1⟩
      · have hd3 : decide (300 < (c.size : Int)) = false := by simp; omega
        by_cases hab : b.size < a.size
        · by_cases hc2 : c.size < b.size
          · have hm := lin_eq a b c c.size (by omega) (by omega) (by omega)
            have HM := Lib.hid hm
            clear hm
            have n300 : c.size ≤ 300 := by omega
            have na : c.size ≤ a.size := by omega
            have nb : c.size ≤ b.size := by omega
            have nc : c.size ≤ c.size := by omega
            go_enter Try.func4, Try.ntmps4
            go_wp2_with (first
              | (go_at_call 11; refine (via (awake_any _) (by assumption)).mono ?_; rintro e w1 ⟨rfl, hb1⟩))
            go_quiet (fail)
            have hb2 : Below w.heap.size w (w1.drewN nq) := Below.drewN hb1 _
            generalize w1.drewN nq = w2 at hb2 ⊢
            go_wp2_with fail
            refine (via (xorg _ _ (hd a c.size) (hd b c.size) _ (by first | exact hd_data _ _ | exact hd_self _) (by first | exact hd_data _ _ | exact hd_self _) (by rw [hd_length _ _ na]; exact n300) (by rw [hd_length _ _ nb]; exact n300)) hb2).mono ?_; rintro e w3 ⟨rfl, hb3⟩
            go_wp2_with fail
            refine (via (xorg _ _ (Crc.xorAt (hd a c.size) 0 (hd b c.size)) (hd c c.size) _ rfl (by first | exact hd_data _ _ | exact hd_self _) (by rw [Crc.xorAt_length, hd_length _ _ na]; exact n300) (by rw [hd_length _ _ nc]; exact n300)) hb3).mono ?_; rintro e w4 ⟨rfl, hb4⟩
            go_wp2_with fail
            refine (via (sumg _ (Crc.xorAt (Crc.xorAt (hd a c.size) 0 (hd b c.size)) 0 (hd c c.size)) _ rfl (by rw [Crc.xorAt_length, Crc.xorAt_length, hd_length _ _ na]; exact n300)) hb4).mono ?_; rintro e w5 ⟨rfl, hb5⟩
            go_wp2_with fail
            refine (via (sumg _ (hd a c.size) _ (by first | exact hd_data _ _ | exact hd_self _) (by rw [hd_length _ _ na]; exact n300)) hb5).mono ?_; rintro e w6 ⟨rfl, hb6⟩
            go_wp2_with fail
            refine (via (sumg _ (hd b c.size) _ (by first | exact hd_data _ _ | exact hd_self _) (by rw [hd_length _ _ nb]; exact n300)) hb6).mono ?_; rintro e w7 ⟨rfl, hb7⟩
            go_wp2_with fail
            refine (via (sumg _ (hd c c.size) _ (by first | exact hd_data _ _ | exact hd_self _) (by rw [hd_length _ _ nc]; exact n300)) hb7).mono ?_; rintro e w8 ⟨rfl, hb8⟩
            go_wp2
            go_ret
            exact ⟨ret_bool (by rw [HM.out]; simp), hb8⟩
          · have hm := lin_eq a b c b.size (by omega) (by omega) (by omega)
            have HM := Lib.hid hm
            clear hm
            have n300 : b.size ≤ 300 := by omega
            have na : b.size ≤ a.size := by omega
            have nb : b.size ≤ b.size := by omega
            have nc : b.size ≤ c.size := by omega
            go_enter Try.func4, Try.ntmps4
            go_wp2_with (first
              | (go_at_call 11; refine (via (awake_any _) (by assumption)).mono ?_; rintro e w1 ⟨rfl, hb1⟩))
            go_quiet (fail)
            have hb2 : Below w.heap.size w (w1.drewN nq) := Below.drewN hb1 _
            generalize w1.drewN nq = w2 at hb2 ⊢
            go_wp2_with fail
            refine (via (xorg _ _ (hd a b.size) (hd b b.size) _ (by first | exact hd_data _ _ | exact hd_self _) (by first | exact hd_data _ _ | exact hd_self _) (by rw [hd_length _ _ na]; exact n300) (by rw [hd_length _ _ nb]; exact n300)) hb2).mono ?_; rintro e w3 ⟨rfl, hb3⟩
            go_wp2_with fail
            refine (via (xorg _ _ (Crc.xorAt (hd a b.size) 0 (hd b b.size)) (hd c b.size) _ rfl (by first | exact hd_data _ _ | exact hd_self _) (by rw [Crc.xorAt_length, hd_length _ _ na]; exact n300) (by rw [hd_length _ _ nc]; exact n300)) hb3).mono ?_; rintro e w4 ⟨rfl, hb4⟩
            go_wp2_with fail
            refine (via (sumg _ (Crc.xorAt (Crc.xorAt (hd a b.size) 0 (hd b b.size)) 0 (hd c b.size)) _ rfl (by rw [Crc.xorAt_length, Crc.xorAt_length, hd_length _ _ na]; exact n300)) hb4).mono ?_; rintro e w5 ⟨rfl, hb5⟩
            go_wp2_with fail
            refine (via (sumg _ (hd a b.size) _ (by first | exact hd_data _ _ | exact hd_self _) (by rw [hd_length _ _ na]; exact n300)) hb5).mono ?_; rintro e w6 ⟨rfl, hb6⟩
            go_wp2_with fail
            refine (via (sumg _ (hd b b.size) _ (by first | exact hd_data _ _ | exact hd_self _) (by rw [hd_length _ _ nb]; exact n300)) hb6).mono ?_; rintro e w7 ⟨rfl, hb7⟩
            go_wp2_with fail
            refine (via (sumg _ (hd c b.size) _ (by first | exact hd_data _ _ | exact hd_self _) (by rw [hd_length _ _ nc]; exact n300)) hb7).mono ?_; rintro e w8 ⟨rfl, hb8⟩
            go_wp2
            go_ret
            exact ⟨ret_bool (by rw [HM.out]; simp), hb8⟩
        · by_cases hc2 : c.size < a.size
          · have hm := lin_eq a b c c.size (by omega) (by omega) (by omega)
            have HM := Lib.hid hm
            clear hm
            have n300 : c.size ≤ 300 := by omega
            have na : c.size ≤ a.size := by omega
            have nb : c.size ≤ b.size := by omega
            have nc : c.size ≤ c.size := by omega
            go_enter Try.func4, Try.ntmps4
            go_wp2_with (first
              | (go_at_call 11; refine (via (awake_any _) (by assumption)).mono ?_; rintro e w1 ⟨rfl, hb1⟩))
            go_quiet (fail)
            have hb2 : Below w.heap.size w (w1.drewN nq) := Below.drewN hb1 _
            generalize w1.drewN nq = w2 at hb2 ⊢
            go_wp2_with fail
            refine (via (xorg _ _ (hd a c.size) (hd b c.size) _ (by first | exact hd_data _ _ | exact hd_self _) (by first | exact hd_data _ _ | exact hd_self _) (by rw [hd_length _ _ na]; exact n300) (by rw [hd_length _ _ nb]; exact n300)) hb2).mono ?_; rintro e w3 ⟨rfl, hb3⟩
            go_wp2_with fail
            refine (via (xorg _ _ (Crc.xorAt (hd a c.size) 0 (hd b c.size)) (hd c c.size) _ rfl (by first | exact hd_data _ _ | exact hd_self _) (by rw [Crc.xorAt_length, hd_length _ _ na]; exact n300) (by rw [hd_length _ _ nc]; exact n300)) hb3).mono ?_; rintro e w4 ⟨rfl, hb4⟩
            go_wp2_with fail
            refine (via (sumg _ (Crc.xorAt (Crc.xorAt (hd a c.size) 0 (hd b c.size)) 0 (hd c c.size)) _ rfl (by rw [Crc.xorAt_length, Crc.xorAt_length, hd_length _ _ na]; exact n300)) hb4).mono ?_; rintro e w5 ⟨rfl, hb5⟩
            go_wp2_with fail
            refine (via (sumg _ (hd a c.size) _ (by first | exact hd_data _ _ | exact hd_self _) (by rw [hd_length _ _ na]; exact n300)) hb5).mono ?_; rintro e w6 ⟨rfl, hb6⟩
            go_wp2_with fail
            refine (via (sumg _ (hd b c.size) _ (by first | exact hd_data _ _ | exact hd_self _) (by rw [hd_length _ _ nb]; exact n300)) hb6).mono ?_; rintro e w7 ⟨rfl, hb7⟩
            go_wp2_with fail
            refine (via (sumg _ (hd c c.size) _ (by first | exact hd_data _ _ | exact hd_self _) (by rw [hd_length _ _ nc]; exact n300)) hb7).mono ?_; rintro e w8 ⟨rfl, hb8⟩
            go_wp2
            go_ret
            exact ⟨ret_bool (by rw [HM.out]; simp), hb8⟩
          · have hm := lin_eq a b c a.size (by omega) (by omega) (by omega)
            have HM := Lib.hid hm
            clear hm
            have n300 : a.size ≤ 300 := by omega
            have na : a.size ≤ a.size := by omega
            have nb : a.size ≤ b.size := by omega
            have nc : a.size ≤ c.size := by omega
            go_enter Try.func4, Try.ntmps4
            go_wp2_with (first
              | (go_at_call 11; refine (via (awake_any _) (by assumption)).mono ?_; rintro e w1 ⟨rfl, hb1⟩))
            go_quiet (fail)
            have hb2 : Below w.heap.size w (w1.drewN nq) := Below.drewN hb1 _
            generalize w1.drewN nq = w2 at hb2 ⊢
            go_wp2_with fail
            refine (via (xorg _ _ (hd a a.size) (hd b a.size) _ (by first | exact hd_data _ _ | exact hd_self _) (by first | exact hd_data _ _ | exact hd_self _) (by rw [hd_length _ _ na]; exact n300) (by rw [hd_length _ _ nb]; exact n300)) hb2).mono ?_; rintro e w3 ⟨rfl, hb3⟩
            go_wp2_with fail
            refine (via (xorg _ _ (Crc.xorAt (hd a a.size) 0 (hd b a.size)) (hd c a.size) _ rfl (by first | exact hd_data _ _ | exact hd_self _) (by rw [Crc.xorAt_length, hd_length _ _ na]; exact n300) (by rw [hd_length _ _ nc]; exact n300)) hb3).mono ?_; rintro e w4 ⟨rfl, hb4⟩
            go_wp2_with fail
            refine (via (sumg _ (Crc.xorAt (Crc.xorAt (hd a a.size) 0 (hd b a.size)) 0 (hd c a.size)) _ rfl (by rw [Crc.xorAt_length, Crc.xorAt_length, hd_length _ _ na]; exact n300)) hb4).mono ?_; rintro e w5 ⟨rfl, hb5⟩
            go_wp2_with fail
            refine (via (sumg _ (hd a a.size) _ (by first | exact hd_data _ _ | exact hd_self _) (by rw [hd_length _ _ na]; exact n300)) hb5).mono ?_; rintro e w6 ⟨rfl, hb6⟩
            go_wp2_with fail
            refine (via (sumg _ (hd b a.size) _ (by first | exact hd_data _ _ | exact hd_self _) (by rw [hd_length _ _ nb]; exact n300)) hb6).mono ?_; rintro e w7 ⟨rfl, hb7⟩
            go_wp2_with fail
            refine (via (sumg _ (hd c a.size) _ (by first | exact hd_data _ _ | exact hd_self _) (by rw [hd_length _ _ nc]; exact n300)) hb7).mono ?_; rintro e w8 ⟨rfl, hb8⟩
            go_wp2
            go_ret
            exact ⟨ret_bool (by rw [HM.out]; simp), hb8⟩

end Go.Proofs.Ytlpejbmckidacaa

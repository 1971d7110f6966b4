/-
  Walks of the laws on parts and on Combine.
-/
import Derived.Test.YtlpejbmckidacaaWC
namespace Go.Proofs.Ytlpejbmckidacaa
open Go.RowKit Go.Sort

theorem i64_hi {x : Int} (h : (Lit.int .i64 x).wf = true) : x ≤ 9223372036854775807 := by
  simp [Lit.wf, IntKind.min, IntKind.max, IntKind.signed, IntKind.bits] at h; omega

set_option maxHeartbeats 400000 in
theorem lawcombines (a b n : Int) (w : World) (wa : (Lit.int .u32 a).wf = true) (_ : (Lit.int .u32 b).wf = true) (wn : (Lit.int .i64 n).wf = true) :
    Calls Try.prog 10 #[.int .u32 a, .int .u32 b, .int .i64 n] w fun e w' => e = .returned (.bool true) ∧ Below w.heap.size w w' := by
  have hb0 := Below.refl w.heap.size w
  have a0 := u32_lo wa
  have a1 := u32_hi wa
  have n1 := i64_hi wn
  go_enter Try.func10, Try.ntmps10
  go_wp2_with (first
    | (go_at_call 11; refine (via (awake_any _) (by assumption)).mono ?_; rintro e w1 ⟨rfl, hb1⟩)
    | (go_at_call 25; refine (via (combine_any _ _ _ _ a0 a1 n1) (by assumption)).mono ?_; rintro e w2 ⟨rfl, hb2⟩)
    | (go_at_call 26; refine (refcombine_any _ _ _ _ a0 a1 n1).mono ?_; rintro e w3 ⟨rfl, rfl⟩))
  go_ret
  exact ⟨rfl, by assumption⟩

theorem parts_comb (s t : ByteArray) : comb (N (Crc.sum s.data.toList)) (N (Crc.sum t.data.toList)) (t.size : Int) = N (Crc.sum (s ++ t).data.toList) := by
  unfold comb
  rw [B_N, B_N, Int.toNat_natCast, ByteArray.data_append, Array.toList_append, Crc.sum_append, Array.length_toList]; rfl
theorem parts_upd (s t : ByteArray) : N (Crc.upd (B (N (Crc.sum s.data.toList))) t.data.toList) = N (Crc.sum (s ++ t).data.toList) := by
  rw [B_N, Crc.upd_append, ByteArray.data_append, Array.toList_append]

set_option maxHeartbeats 400000 in
theorem lawparts (s t : ByteArray) (w : World) (hs : s.size ≤ maxLen) (ht : t.size ≤ maxLen) :
    Calls Try.prog 9 #[.string s, .string t] w fun e w' => e = .returned (.bool true) ∧ Below w.heap.size w w' := by
  have hs' : s.size ≤ 9223372036854775807 := hs
  have ht' : t.size ≤ 9223372036854775807 := ht
  have hb0 := Below.refl w.heap.size w
  by_cases h : 500 < s.size
  · go_enter Try.func9, Try.ntmps9
    go_wp2_with (go_at_call 11; refine (via (awake_any _) (by assumption)).mono ?_; rintro e w1 ⟨rfl, hb1⟩)
    go_ret
    exact ⟨rfl, by assumption⟩
  · have hd : decide (500 < (s.size : Int)) = false := by simp; omega
    by_cases h2 : 500 < t.size
    · go_enter Try.func9, Try.ntmps9
      go_wp2_with (go_at_call 11; refine (via (awake_any _) (by assumption)).mono ?_; rintro e w1 ⟨rfl, hb1⟩)
      go_ret
      exact ⟨rfl, by assumption⟩
    · have hd2 : decide (500 < (t.size : Int)) = false := by simp; omega
      have h1000 : s.size ≤ maxLen := by unfold maxLen; omega
      have t1000 : t.size ≤ maxLen := by unfold maxLen; omega
      have st1000 : (s ++ t).size ≤ maxLen := by rw [ByteArray.size_append]; unfold maxLen; omega
      have q0 := N_lo (Crc.sum s.data.toList)
      have q1 := N_hi (Crc.sum s.data.toList)
      have HC := Lib.hid (parts_comb s t)
      have HU := Lib.hid (parts_upd s t)
      go_enter Try.func9, Try.ntmps9
      go_wp2_with (first
        | (go_at_call 11; refine (via (awake_any _) (by assumption)).mono ?_; rintro e w1 ⟨rfl, hb1⟩)
        | (go_at_call 12; refine (via (sum_any _ _ (by assumption)) (by assumption)).mono ?_; rintro e w2 ⟨rfl, hb2⟩)
        | (go_at_call 14; refine (via (update_any _ _ _ (by assumption)) (by assumption)).mono ?_; rintro e w3 ⟨rfl, hb3⟩; rw [HU.out])
        | (go_at_call 25; refine (via (combine_any _ _ _ _ q0 q1 (by omega)) (by assumption)).mono ?_; rintro e w4 ⟨rfl, hb4⟩; rw [HC.out]))
      go_ret
      exact ⟨rfl, by assumption⟩

end Go.Proofs.Ytlpejbmckidacaa

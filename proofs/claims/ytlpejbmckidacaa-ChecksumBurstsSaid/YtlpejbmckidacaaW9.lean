/-
  Walks of the laws on linearity and on bursts.
-/
import Derived.Test.YtlpejbmckidacaaW8
namespace Go.Proofs.Ytlpejbmckidacaa
open Go.RowKit Go.Sort

/-- The text that the law on bursts opens. -/
def ubr (s : ByteArray) (p : Nat) (x : Int) : ByteArray := ⟨(Crc.xorAt (s ++ tailB s).data.toList p (bstr (B x)).data.toList).toArray⟩
theorem ubr_size (s : ByteArray) (p : Nat) (x : Int) : (ubr s p x).size = s.size + 4 := by
  show (Crc.xorAt (s ++ tailB s).data.toList p (bstr (B x)).data.toList).toArray.size = _
  simp [Crc.xorAt_length]
  rfl
theorem ubr_not (s : ByteArray) (p : Nat) (x : Int) (h0 : 0 ≤ x) (h1 : x ≤ 4294967295) (hx : x ≠ 0) (hp : p ≤ s.size) : ¬ Val (ubr s p x) := by
  intro hv
  have hl : s.data.toList.length = s.size := by rw [Array.length_toList]; rfl
  refine Crc.burst s.data.toList p (B x) ?_ (by omega) (bodyB (ubr s p x)).data.toList ?_
  · intro e
    apply hx
    have := N_B x h0 h1
    rw [e] at this
    exact this.symm
  · have h2 : (bodyB (ubr s p x) ++ tailB (bodyB (ubr s p x))).data.toList = (ubr s p x).data.toList := by rw [hv]
    rw [ByteArray.data_append, Array.toList_append] at h2
    exact h2
theorem ubr_S (s : ByteArray) (p : Nat) (x : Int) (h0 : 0 ≤ x) (h1 : x ≤ 4294967295) (hx : x ≠ 0) (hp : p ≤ s.size) : opS (ubr s p x) = ByteArray.empty := by
  unfold opS; rw [if_neg (fun h => ubr_not s p x h0 h1 hx hp h.2)]
theorem ubr_E (s : ByteArray) (p : Nat) (x : Int) (h0 : 0 ≤ x) (h1 : x ≤ 4294967295) (hx : x ≠ 0) (hp : p ≤ s.size) : opE (ubr s p x) = 11 := by
  unfold opE; rw [if_neg (fun h => ubr_not s p x h0 h1 hx hp h.2)]

theorem xor_burst (s : ByteArray) (p x : Int) (w : World) (h0 : 0 ≤ p) (h1 : p ≤ 1000000) (hs : s.size ≤ 500) :
    Calls Try.prog 16 #[.string (s ++ tailB s), .int .i64 p, .string (bstr (B x))] w fun e w' => e = .returned (.string (ubr s p.toNat x)) ∧ Below w.heap.size w w' :=
  xor_any _ _ p w h0 h1 (by rw [ByteArray.size_append, tailB_size]; omega) (by rw [bstr_size]; omega)

theorem xor_burst' (s : ByteArray) (an : Nat) (x : Int) (w : World) (hs : s.size ≤ 500) :
    Calls Try.prog 16 #[.string (s ++ tailB s), .int .i64 ((an : Int) % ((s.size : Int) + 4 - 3)), .string (bstr (B x))] w fun e w' => e = .returned (.string (ubr s (an % (s.size + 1)) x)) ∧ Below w.heap.size w w' := by
  have h := xor_burst s ((an : Int) % ((s.size : Int) + 1)) x w (Int.emod_nonneg _ (by omega)) (by have := Int.emod_lt_of_pos (an : Int) (show (0 : Int) < (s.size : Int) + 1 by omega); omega) hs
  rw [show ((an : Int) % ((s.size : Int) + 1)).toNat = an % (s.size + 1) from by
    rw [show (an : Int) % ((s.size : Int) + 1) = ((an % (s.size + 1) : Nat) : Int) from by simp]; exact Int.toNat_natCast _] at h
  rw [show (s.size : Int) + 4 - 3 = (s.size : Int) + 1 from by omega]
  exact h

set_option maxHeartbeats 1000000 in
theorem lawbursts (s : ByteArray) (a x : Int) (w : World) (hs : s.size ≤ maxLen) (wa : (Lit.int .u16 a).wf = true) (wx : (Lit.int .u32 x).wf = true) :
    Calls Try.prog 8 #[.string s, .int .u16 a, .int .u32 x] w fun e w' => e = .returned (.bool true) ∧ Below w.heap.size w w' := by
  have hs' : s.size ≤ 9223372036854775807 := hs
  have hb0 := Below.refl w.heap.size w
  have a0 := u16_lo wa
  have a1 := u16_hi wa
  have x0 := u32_lo wx
  have x1 := u32_hi wx
  clear wa wx
  by_cases h : 500 < s.size
  · go_enter Try.func8, Try.ntmps8
    go_wp2_with (go_at_call 11; refine (via (awake_any _) (by assumption)).mono ?_; rintro e w1 ⟨rfl, hb1⟩)
    go_ret
    exact ⟨rfl, hb1⟩
  · have hd : decide (500 < (s.size : Int)) = false := by simp; omega
    by_cases hx : x = 0
    · have hxb : (x == 0) = true := by simp [hx]
      have HX := Lib.hid hx
      clear hx
      go_enter Try.func8, Try.ntmps8
      go_wp2_with (go_at_call 11; refine (via (awake_any _) (by assumption)).mono ?_; rintro e w1 ⟨rfl, hb1⟩)
      go_ret
      exact ⟨rfl, hb1⟩
    · have hxb : (x == 0) = false := by simp [hx]
      have h1000 : s.size ≤ 1000 := by omega
      have h500 : s.size ≤ 500 := by omega
      have ht4 : (tailB s).size = 4 := rfl
      obtain ⟨an, rfl⟩ := Int.eq_ofNat_of_zero_le a0
      have hp : an % (s.size + 1) ≤ s.size := by have := Nat.mod_lt an (show 0 < s.size + 1 by omega); omega
      have huS := ubr_S s (an % (s.size + 1)) x x0 x1 hx hp
      have huE := ubr_E s (an % (s.size + 1)) x x0 x1 hx hp
      have huz : (ubr s (an % (s.size + 1)) x).size ≤ 1000 := by rw [ubr_size]; omega
      have HX := Lib.hid hx
      clear hx
      go_enter Try.func8, Try.ntmps8
      go_wp2_with (first
        | (go_at_call 11; refine (via (awake_any _) (by assumption)).mono ?_; rintro e w1 ⟨rfl, hb1⟩)
        | (go_at_call 23; refine (via (sealed_any _ _ (by assumption)) (by assumption)).mono ?_; rintro e w5 ⟨rfl, hb5⟩))
      refine wp_region_quiet_below (by kernel_rfl) (by kernel_rfl) ?_
      repeat (go_big_quiet_step ((first | (go_at_call 18; exact Calls.regrown_of (refbytes_any _ _ x0 x1)) | (go_at_call 16; exact Calls.regrown_of (xor_burst' s an x _ h500)))))
      refine wpQuiet_nil ?_
      intro _ hw'
      obtain ⟨⟨dq, osq⟩, hw''⟩ := hw'
      subst hw''
      have hb6 := hb5.trans ((below_regrown w5 dq osq).mono hb5.size)
      generalize grow (redrawn w5 dq) osq = w6 at hb6 ⊢
      go_wp2_with (first
        | (go_at_call 21; refine (via (open_any _ _ (by assumption)) hb6).mono ?_; rintro e w7 ⟨rfl, hb7⟩))
      go_ret
      exact ⟨rfl, hb7⟩

end Go.Proofs.Ytlpejbmckidacaa

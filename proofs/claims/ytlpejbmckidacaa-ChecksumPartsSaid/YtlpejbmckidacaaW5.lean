/-
  The walk of awake.
-/
import Derived.Test.YtlpejbmckidacaaW4
namespace Go.Proofs.Ytlpejbmckidacaa
open Go.RowKit Go.Sort

theorem sum_digits : (N (Crc.sum [49, 50, 51, 52, 53, 54, 55, 56, 57]) == 3808858755) = true := by decide +kernel
theorem sum_empty : Crc.bytes (Crc.sum []) = [0, 0, 0, 0] := by decide +kernel

theorem ret_bool {a b : Bool} (h : a = b) : Ending.returned (.bool a) = .returned (.bool b) := by rw [h]

set_option maxHeartbeats 400000 in
theorem awake_any (w : World) :
    Calls Try.prog 11 #[] w fun e w' => e = .returned (.bool true) ∧ Below w.heap.size w w' := by
  have hd := sum_digits
  go_enter Try.func11, Try.ntmps11
  go_wp2_with (first | (go_at_call 12; refine (sum_any _ _ (by unfold maxLen; decide)).mono ?_; rintro e w1 ⟨rfl, hb⟩) | (go_at_call 23; refine (sealed_any _ _ (by decide)).mono ?_; rintro e w2 ⟨rfl, hb2⟩))
  go_ret
  exact ⟨ret_bool (by decide +kernel), hb.trans (hb2.mono hb.size)⟩

theorem u32_lo {x : Int} (h : (Lit.int .u32 x).wf = true) : 0 ≤ x := by
  simp [Lit.wf, IntKind.min, IntKind.max, IntKind.signed, IntKind.bits] at h; omega
theorem u32_hi {x : Int} (h : (Lit.int .u32 x).wf = true) : x ≤ 4294967295 := by
  simp [Lit.wf, IntKind.min, IntKind.max, IntKind.signed, IntKind.bits] at h; omega
theorem u16_lo {x : Int} (h : (Lit.int .u16 x).wf = true) : 0 ≤ x := by
  simp [Lit.wf, IntKind.min, IntKind.max, IntKind.signed, IntKind.bits] at h; omega
theorem u16_hi {x : Int} (h : (Lit.int .u16 x).wf = true) : x ≤ 65535 := by
  simp [Lit.wf, IntKind.min, IntKind.max, IntKind.signed, IntKind.bits] at h; omega

/-- A callee's contract, met behind others: what was there when the caller began has not turned. -/
theorem via {P : Program} {f : FuncId} {args : Array Value} {w W : World} {v : Value} (h : Calls P f args w fun e w' => e = .returned v ∧ Below w.heap.size w w') (hb : Below W.heap.size W w) :
    Calls P f args w fun e w' => e = .returned v ∧ Below W.heap.size W w' := h.mono fun _ _ ⟨he, hb'⟩ => ⟨he, hb.trans (hb'.mono hb.size)⟩

set_option maxHeartbeats 400000 in
theorem lawsums (c : Int) (s : ByteArray) (w : World) (_ : (Lit.int .u32 c).wf = true) (hs : s.size ≤ maxLen) :
    Calls Try.prog 3 #[.int .u32 c, .string s] w fun e w' => e = .returned (.bool true) ∧ Below w.heap.size w w' := by
  have hs' : s.size ≤ 9223372036854775807 := hs
  have hb0 := Below.refl w.heap.size w
  by_cases h : 500 < s.size
  · go_enter Try.func3, Try.ntmps3
    go_wp2_with (go_at_call 11; refine (via (awake_any _) (by assumption)).mono ?_; rintro e w1 ⟨rfl, hb1⟩)
    go_ret
    exact ⟨rfl, hb1⟩
  · have hsz : s.size ≤ maxLen := by unfold maxLen; omega
    go_enter Try.func3, Try.ntmps3
    go_wp2_with (first
      | (go_at_call 11; refine (via (awake_any _) (by assumption)).mono ?_; rintro e w1 ⟨rfl, hb1⟩)
      | (go_at_call 12; refine (via (sum_any _ _ hsz) (by assumption)).mono ?_; rintro e w2 ⟨rfl, hb2⟩)
      | (go_at_call 13; refine (refsum_any _ _ hsz).mono ?_; rintro e w3 ⟨rfl, rfl⟩)
      | (go_at_call 14; refine (via (update_any _ _ _ hsz) (by assumption)).mono ?_; rintro e w4 ⟨rfl, hb4⟩)
      | (go_at_call 15; refine (refupdate_any _ _ _ hsz).mono ?_; rintro e w5 ⟨rfl, rfl⟩))
    go_ret
    exact ⟨rfl, hb4⟩

end Go.Proofs.Ytlpejbmckidacaa

/-
  Walks of the laws on numbers, seals and opens.
-/
import Derived.Test.YtlpejbmckidacaaW5
namespace Go.Proofs.Ytlpejbmckidacaa
open Go.RowKit Go.Sort

open Classical in
noncomputable def opS (s : ByteArray) : ByteArray := if 4 ≤ s.size ∧ Val s then bodyB s else ByteArray.empty
open Classical in
noncomputable def opE (s : ByteArray) : Int := if 4 ≤ s.size ∧ Val s then 0 else 11

theorem open_any (s : ByteArray) (w : World) (hs : s.size ≤ 1000) :
    Calls Try.prog 21 #[.string s] w fun e w' => e = .returned (.tuple #[.string (opS s), .int .i64 (opE s)]) ∧ Below w.heap.size w w' := by
  unfold opS opE
  by_cases h : 4 ≤ s.size
  · by_cases hv : Val s
    · rw [if_pos ⟨h, hv⟩, if_pos ⟨h, hv⟩]; exact open_good s w h hs hv
    · rw [if_neg (fun x => hv x.2), if_neg (fun x => hv x.2)]; exact open_bad s w h hs hv
  · rw [if_neg (fun x => h x.1), if_neg (fun x => h x.1)]; exact open_short s w (by omega)
theorem refopen_any (s : ByteArray) (w : World) (hs : s.size ≤ 1000) :
    Calls Try.prog 22 #[.string s] w fun e w' => e = .returned (.tuple #[.string (opS s), .int .i64 (opE s)]) ∧ Below w.heap.size w w' := by
  unfold opS opE
  by_cases h : 4 ≤ s.size
  · by_cases hv : Val s
    · rw [if_pos ⟨h, hv⟩, if_pos ⟨h, hv⟩]; exact refopen_good s w h hs hv
    · rw [if_neg (fun x => hv x.2), if_neg (fun x => hv x.2)]; exact refopen_bad s w h hs hv
  · rw [if_neg (fun x => h x.1), if_neg (fun x => h x.1)]; exact refopen_short s w (by omega)

theorem num_bstr (n : Int) (h0 : 0 ≤ n) (h1 : n ≤ 4294967295) : (N (Crc.num (bstr (B n)).data.toList) == n) = true := by
  rw [beq_iff_eq]
  show N (Crc.num (Crc.bytes (B n))) = n
  rw [Crc.num_bytes, N_B n h0 h1]

set_option maxHeartbeats 400000 in
theorem lawnumbers (n : Int) (s : ByteArray) (w : World) (wn : (Lit.int .u32 n).wf = true) (hs : s.size ≤ maxLen) :
    Calls Try.prog 5 #[.int .u32 n, .string s] w fun e w' => e = .returned (.bool true) ∧ Below w.heap.size w w' := by
  have hs' : s.size ≤ 9223372036854775807 := hs
  have hb0 := Below.refl w.heap.size w
  have n0 := u32_lo wn
  have n1 := u32_hi wn
  by_cases h : 20 < s.size
  · go_enter Try.func5, Try.ntmps5
    go_wp2_with (go_at_call 11; refine (via (awake_any _) (by assumption)).mono ?_; rintro e w1 ⟨rfl, hb1⟩)
    go_ret
    exact ⟨rfl, hb1⟩
  · have hd : decide (20 < (s.size : Int)) = false := by simp; omega
    have hn := num_bstr n n0 n1
    go_enter Try.func5, Try.ntmps5
    go_wp2_with (first
      | (go_at_call 11; refine (via (awake_any _) (by assumption)).mono ?_; rintro e w1 ⟨rfl, hb1⟩)
      | (go_at_call 17; refine (via (bytes_any _ _ n0 n1) (by assumption)).mono ?_; rintro e w2 ⟨rfl, hb2⟩)
      | (go_at_call 18; refine (via (refbytes_any _ _ n0 n1) (by assumption)).mono ?_; rintro e w3 ⟨rfl, hb3⟩)
      | (go_at_call 19; refine (via (number_any _ _) (by assumption)).mono ?_; rintro e w4 ⟨rfl, hb4⟩)
      | (go_at_call 20; refine (via (refnumber_any _ _) (by assumption)).mono ?_; rintro e w5 ⟨rfl, hb5⟩))
    go_ret
    exact ⟨rfl, hb4⟩

set_option maxHeartbeats 400000 in
theorem lawseals (s : ByteArray) (w : World) (hs : s.size ≤ maxLen) :
    Calls Try.prog 6 #[.string s] w fun e w' => e = .returned (.bool true) ∧ Below w.heap.size w w' := by
  have hs' : s.size ≤ 9223372036854775807 := hs
  have hb0 := Below.refl w.heap.size w
  by_cases h : 500 < s.size
  · go_enter Try.func6, Try.ntmps6
    go_wp2_with (go_at_call 11; refine (via (awake_any _) (by assumption)).mono ?_; rintro e w1 ⟨rfl, hb1⟩)
    go_ret
    exact ⟨rfl, hb1⟩
  · have hd : decide (500 < (s.size : Int)) = false := by simp; omega
    have h1000 : s.size ≤ 1000 := by omega
    go_enter Try.func6, Try.ntmps6
    go_wp2_with (first
      | (go_at_call 11; refine (via (awake_any _) (by assumption)).mono ?_; rintro e w1 ⟨rfl, hb1⟩)
      | (go_at_call 21; refine (via (open_any _ _ h1000) (by assumption)).mono ?_; rintro e w2 ⟨rfl, hb2⟩)
      | (go_at_call 22; refine (via (refopen_any _ _ h1000) (by assumption)).mono ?_; rintro e w3 ⟨rfl, hb3⟩)
      | (go_at_call 23; refine (via (sealed_any _ _ h1000) (by assumption)).mono ?_; rintro e w4 ⟨rfl, hb4⟩)
      | (go_at_call 24; refine (via (refsealed_any _ _ h1000) (by assumption)).mono ?_; rintro e w5 ⟨rfl, hb5⟩))
    go_ret
    exact ⟨rfl, hb5⟩

end Go.Proofs.Ytlpejbmckidacaa

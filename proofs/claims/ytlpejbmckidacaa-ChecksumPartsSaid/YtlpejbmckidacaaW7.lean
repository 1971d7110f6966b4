/-
  The walk of the law on opens.
-/
import Derived.Test.YtlpejbmckidacaaW6
namespace Go.Proofs.Ytlpejbmckidacaa
open Go.RowKit Go.Sort

theorem body_sealed (s : ByteArray) : bodyB (s ++ tailB s) = s := by
  apply bytes_ext
  rw [bodyB_list, ByteArray.size_append, tailB_size, Nat.add_sub_cancel, ByteArray.data_append, Array.toList_append]
  have : s.size = s.data.toList.length := by rw [Array.length_toList]; rfl
  rw [this, List.take_left]
theorem val_sealed (s : ByteArray) : Val (s ++ tailB s) := by
  unfold Val; rw [body_sealed]
theorem extract_sealed (s : ByteArray) : (s ++ tailB s).extract 0 s.size = s := by
  have := body_sealed s
  unfold bodyB at this
  rwa [ByteArray.size_append, tailB_size, Nat.add_sub_cancel] at this

theorem opS_sealed (s : ByteArray) : opS (s ++ tailB s) = s := by
  unfold opS
  rw [if_pos ⟨by rw [ByteArray.size_append, tailB_size]; omega, val_sealed s⟩, body_sealed]
theorem opE_sealed (s : ByteArray) : opE (s ++ tailB s) = 0 := by
  unfold opE
  rw [if_pos ⟨by rw [ByteArray.size_append, tailB_size]; omega, val_sealed s⟩]

theorem val_list (s : ByteArray) (hv : Val s) : ((bodyB s ++ tailB (bodyB s)).toList == s.toList) = true := by
  rw [hv]; simp

set_option maxHeartbeats 400000 in
theorem lawopens (s : ByteArray) (w : World) (hs : s.size ≤ maxLen) :
    Calls Try.prog 7 #[.string s] w fun e w' => e = .returned (.bool true) ∧ Below w.heap.size w w' := by
  have hs' : s.size ≤ 9223372036854775807 := hs
  have hb0 := Below.refl w.heap.size w
  by_cases h : 500 < s.size
  · go_enter Try.func7, Try.ntmps7
    go_wp2_with (go_at_call 11; refine (via (awake_any _) (by assumption)).mono ?_; rintro e w1 ⟨rfl, hb1⟩)
    go_ret
    exact ⟨rfl, hb1⟩
  · have hd : decide (500 < (s.size : Int)) = false := by simp; omega
    have h1000 : s.size ≤ 1000 := by omega
    have ht1000 : (s ++ tailB s).size ≤ 1000 := by rw [ByteArray.size_append, tailB_size]; omega
    have ht4 : (tailB s).size = 4 := rfl
    have hex := extract_sealed s
    have hoS := opS_sealed s
    have hoE := opE_sealed s
    by_cases hv : 4 ≤ s.size ∧ Val s
    · have hv' := val_list s hv.2
      have hcS : opS s = bodyB s := by unfold opS; rw [if_pos hv]
      have hcE : opE s = 0 := by unfold opE; rw [if_pos hv]
      have hbz : (bodyB s).size ≤ 1000 := by unfold bodyB; rw [ByteArray.size_extract]; omega
      clear hv
      go_enter Try.func7, Try.ntmps7
      go_wp2_with (first
        | (go_at_call 11; refine (via (awake_any _) (by assumption)).mono ?_; rintro e w1 ⟨rfl, hb1⟩)
        | (go_at_call 21; refine (via (open_any _ _ (by assumption)) (by assumption)).mono ?_; rintro e w3 ⟨rfl, hb3⟩)
        | (go_at_call 23; refine (via (sealed_any _ _ (by assumption)) (by assumption)).mono ?_; rintro e w5 ⟨rfl, hb5⟩))
      go_ret
      exact ⟨rfl, hb5⟩
    · have hcS : opS s = ByteArray.empty := by unfold opS; rw [if_neg hv]
      have hcE : opE s = 11 := by unfold opE; rw [if_neg hv]
      clear hv
      go_enter Try.func7, Try.ntmps7
      go_wp2_with (first
        | (go_at_call 11; refine (via (awake_any _) (by assumption)).mono ?_; rintro e w1 ⟨rfl, hb1⟩)
        | (go_at_call 21; refine (via (open_any _ _ (by assumption)) (by assumption)).mono ?_; rintro e w3 ⟨rfl, hb3⟩)
        | (go_at_call 23; refine (via (sealed_any _ _ (by assumption)) (by assumption)).mono ?_; rintro e w5 ⟨rfl, hb5⟩))
      go_ret
      exact ⟨rfl, hb3⟩

end Go.Proofs.Ytlpejbmckidacaa

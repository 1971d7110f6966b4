/-
  Walks of Seal and Open, of the program and of the reference.
-/
import Derived.Test.YtlpejbmckidacaaW3
import Derived.Lib.QuietBelow
namespace Go.Proofs.Ytlpejbmckidacaa
open Go.RowKit Go.Sort

theorem four_of_size (s : ByteArray) (h : s.size = 4) : ∃ a b c d : UInt8, s = ⟨#[a, b, c, d]⟩ := by
  obtain ⟨⟨l⟩⟩ := s
  have hl : l.length = 4 := by simpa [ByteArray.size] using h
  match l, hl with
  | [a, b, c, d], _ => exact ⟨a, b, c, d, rfl⟩
theorem num_other (l : List UInt8) (h : l.length ≠ 4) : Crc.num l = 0#32 := by
  match l, h with
  | [], _ => rfl
  | [_], _ => rfl
  | [_, _], _ => rfl
  | [_, _, _], _ => rfl
  | [_, _, _, _], h => simp at h
  | _ :: _ :: _ :: _ :: _ :: _, _ => rfl

theorem number_any (s : ByteArray) (w : World) :
    Calls Try.prog 19 #[.string s] w fun e w' => e = .returned (.int .u32 (N (Crc.num s.data.toList))) ∧ Below w.heap.size w w' := by
  by_cases h : s.size = 4
  · obtain ⟨a, b, c, d, rfl⟩ := four_of_size s h
    exact number_four a b c d w
  · rw [num_other s.data.toList (by rw [Array.length_toList]; exact h)]
    exact number_other s w h
theorem refnumber_any (s : ByteArray) (w : World) :
    Calls Try.prog 20 #[.string s] w fun e w' => e = .returned (.int .u32 (N (Crc.num s.data.toList))) ∧ Below w.heap.size w w' := by
  by_cases h : s.size = 4
  · obtain ⟨a, b, c, d, rfl⟩ := four_of_size s h
    exact refnumber_four a b c d w
  · rw [num_other s.data.toList (by rw [Array.length_toList]; exact h)]
    exact refnumber_other s w h

/-- The sealed text. -/
def tailB (s : ByteArray) : ByteArray := bstr (Crc.sum s.data.toList)
theorem tailB_size (s : ByteArray) : (tailB s).size = 4 := rfl
theorem tailB_N (s : ByteArray) : bstr (B (N (Crc.sum s.data.toList))) = tailB s := by rw [B_N]; rfl

set_option maxHeartbeats 400000 in
theorem sealed_any (s : ByteArray) (w : World) (hs : s.size ≤ 1000) :
    Calls Try.prog 23 #[.string s] w fun e w' => e = .returned (.string (s ++ tailB s)) ∧ Below w.heap.size w w' := by
  have hsz : s.size ≤ maxLen := by unfold maxLen; omega
  have b0 := N_lo (Crc.sum s.data.toList)
  have b1 := N_hi (Crc.sum s.data.toList)
  have b4 : (bstr (B (N (Crc.sum s.data.toList)))).size ≤ 4 := by rw [bstr_size]; omega
  go_enter Try.func23, Try.ntmps23
  go_wp2_with (first | (go_at_call 12; refine (sum_any _ _ hsz).mono ?_; rintro e w1 ⟨rfl, hb⟩) | (go_at_call 17; refine (bytes_any _ _ b0 b1).mono ?_; rintro e w2 ⟨rfl, hb2⟩))
  go_ret
  exact ⟨ret_str (by rw [tailB_N]), hb.trans (hb2.mono hb.size)⟩

set_option maxHeartbeats 400000 in
theorem refsealed_any (s : ByteArray) (w : World) (hs : s.size ≤ 1000) :
    Calls Try.prog 24 #[.string s] w fun e w' => e = .returned (.string (s ++ tailB s)) ∧ Below w.heap.size w w' := by
  have hsz : s.size ≤ maxLen := by unfold maxLen; omega
  have b0 := N_lo (Crc.sum s.data.toList)
  have b1 := N_hi (Crc.sum s.data.toList)
  have b4 : (bstr (B (N (Crc.sum s.data.toList)))).size ≤ 4 := by rw [bstr_size]; omega
  go_enter Try.func24, Try.ntmps24
  go_wp2_with (first | (go_at_call 13; refine (refsum_any _ _ hsz).mono ?_; rintro e w1 ⟨rfl, rfl⟩) | (go_at_call 18; refine (refbytes_any _ _ b0 b1).mono ?_; rintro e w2 ⟨rfl, hb2⟩))
  go_ret
  exact ⟨ret_str (by rw [tailB_N]), hb2⟩

/-- Open: fewer than four bytes. -/
theorem open_short (s : ByteArray) (w : World) (h : s.size < 4) :
    Calls Try.prog 21 #[.string s] w fun e w' => e = .returned (.tuple #[.string ByteArray.empty, .int .i64 11]) ∧ Below w.heap.size w w' := by
  have hd : decide ((s.size : Int) - 4 < 0) = true := by simp; omega
  have hd' : decide ((s.size : Int) < 4) = true := by simp; omega
  go_enter Try.func21, Try.ntmps21
  go_wp2
  go_quiet (fail)
  go_wp2
  go_ret2
  exact ⟨rfl, Below.drewN (Below.refl _ _) _⟩

/-- The text without its last four bytes; that it is sealed. -/
def bodyB (s : ByteArray) : ByteArray := s.extract 0 (s.size - 4)
def Val (s : ByteArray) : Prop := bodyB s ++ tailB (bodyB s) = s

theorem bodyB_list (s : ByteArray) : (bodyB s).data.toList = s.data.toList.take (s.size - 4) := by
  unfold bodyB
  simp [ByteArray.data_extract]
theorem bytes_ext {a b : ByteArray} (h : a.data.toList = b.data.toList) : a = b := by
  obtain ⟨⟨a⟩⟩ := a; obtain ⟨⟨b⟩⟩ := b; simp at h; subst h; rfl
theorem val_iff (s : ByteArray) (h : 4 ≤ s.size) :
    Val s ↔ Crc.num (List.take (s.size - (s.size - 4)) (List.drop (s.size - 4) s.data.toList)) = Crc.sum (List.take (s.size - 4) s.data.toList) := by
  have hl : (List.drop (s.size - 4) s.data.toList).length = 4 := by rw [List.length_drop, Array.length_toList]; show s.size - _ = 4; omega
  have ht : List.take (s.size - (s.size - 4)) (List.drop (s.size - 4) s.data.toList) = List.drop (s.size - 4) s.data.toList := by
    apply List.take_of_length_le; omega
  rw [ht]
  have hsplit : s.data.toList = s.data.toList.take (s.size - 4) ++ s.data.toList.drop (s.size - 4) := (List.take_append_drop _ _).symm
  constructor
  · intro hv
    have h1 : (bodyB s ++ tailB (bodyB s)).data.toList = s.data.toList := by rw [hv]
    rw [ByteArray.data_append, Array.toList_append, bodyB_list] at h1
    conv at h1 => rhs; rw [hsplit]
    have h2 := List.append_cancel_left h1
    rw [← h2]
    unfold tailB bstr
    rw [bodyB_list]
    exact Crc.num_bytes _
  · intro hv
    apply bytes_ext
    rw [ByteArray.data_append, Array.toList_append, bodyB_list]
    conv => rhs; rw [hsplit]
    congr 1
    unfold tailB bstr
    rw [bodyB_list, ← hv]
    exact Crc.bytes_num _ hl

theorem ne_N_false {a b : BitVec 32} (h : a = b) : (N a != N b) = false := by rw [h]; simp
theorem ne_N_true {a b : BitVec 32} (h : ¬ a = b) : (N a != N b) = true := by rw [bne_iff_ne]; exact fun e => h (N_inj e)

set_option maxHeartbeats 400000 in
theorem open_good (s : ByteArray) (w : World) (h : 4 ≤ s.size) (hs : s.size ≤ 1000) (hv : Val s) :
    Calls Try.prog 21 #[.string s] w fun e w' => e = .returned (.tuple #[.string (bodyB s), .int .i64 0]) ∧ Below w.heap.size w w' := by
  have hd : decide ((s.size : Int) - 4 < 0) = false := by simp; omega
  have hd' : decide ((s.size : Int) < 4) = false := by simp; omega
  have hex : (s.extract 0 (s.size - 4)).size ≤ maxLen := by rw [ByteArray.size_extract]; unfold maxLen; omega
  have hne := ne_N_false ((val_iff s h).1 hv)
  have hv' := Lib.hid hv
  clear hv
  go_enter Try.func21, Try.ntmps21
  go_wp2
  refine wp_region_quiet_below (by kernel_rfl) (by kernel_rfl) ?_
  repeat (go_big_quiet_step ((first | (go_at_call 19; exact Calls.regrown_of (number_any _ _)) | (go_at_call 12; exact Calls.regrown_of (sum_any _ _ hex)))))
  refine wpQuiet_nil ?_
  intro _ hw'
  obtain ⟨⟨dq, osq⟩, hw''⟩ := hw'
  subst hw''
  go_wp2
  go_ret2
  exact ⟨rfl, below_regrown w dq osq⟩

set_option maxHeartbeats 400000 in
theorem open_bad (s : ByteArray) (w : World) (h : 4 ≤ s.size) (hs : s.size ≤ 1000) (hv : ¬ Val s) :
    Calls Try.prog 21 #[.string s] w fun e w' => e = .returned (.tuple #[.string ByteArray.empty, .int .i64 11]) ∧ Below w.heap.size w w' := by
  have hd : decide ((s.size : Int) - 4 < 0) = false := by simp; omega
  have hd' : decide ((s.size : Int) < 4) = false := by simp; omega
  have hex : (s.extract 0 (s.size - 4)).size ≤ maxLen := by rw [ByteArray.size_extract]; unfold maxLen; omega
  have hne := ne_N_true (fun e => hv ((val_iff s h).2 e))
  have hv' := Lib.hid hv
  clear hv
  go_enter Try.func21, Try.ntmps21
  go_wp2
  refine wp_region_quiet_below (by kernel_rfl) (by kernel_rfl) ?_
  repeat (go_big_quiet_step ((first | (go_at_call 19; exact Calls.regrown_of (number_any _ _)) | (go_at_call 12; exact Calls.regrown_of (sum_any _ _ hex)))))
  refine wpQuiet_nil ?_
  intro _ hw'
  obtain ⟨⟨dq, osq⟩, hw''⟩ := hw'
  subst hw''
  go_wp2
  go_ret2
  exact ⟨rfl, below_regrown w dq osq⟩

/-- The reference's Open. -/
theorem refopen_short (s : ByteArray) (w : World) (h : s.size < 4) :
    Calls Try.prog 22 #[.string s] w fun e w' => e = .returned (.tuple #[.string ByteArray.empty, .int .i64 11]) ∧ Below w.heap.size w w' := by
  have hd : decide ((s.size : Int) - 4 < 0) = true := by simp; omega
  have hd' : decide ((s.size : Int) < 4) = true := by simp; omega
  go_enter Try.func22, Try.ntmps22
  go_wp2
  go_ret2
  exact ⟨rfl, Below.refl _ _⟩

theorem val_bool (s : ByteArray) (hv : Val s) : (!(s.extract 0 (s.size - 4) ++ tailB (s.extract 0 (s.size - 4))).toList == s.toList) = false := by
  have : s.extract 0 (s.size - 4) ++ tailB (s.extract 0 (s.size - 4)) = s := hv
  rw [this]; simp
theorem not_val_bool (s : ByteArray) (hv : ¬ Val s) : (!(s.extract 0 (s.size - 4) ++ tailB (s.extract 0 (s.size - 4))).toList == s.toList) = true := by
  rw [Bool.not_eq_true', beq_eq_false_iff_ne]
  intro e
  apply hv
  rw [ByteArray.toList_eq, ByteArray.toList_eq] at e
  exact bytes_ext e

set_option maxHeartbeats 400000 in
theorem refopen_good (s : ByteArray) (w : World) (h : 4 ≤ s.size) (hs : s.size ≤ 1000) (hv : Val s) :
    Calls Try.prog 22 #[.string s] w fun e w' => e = .returned (.tuple #[.string (bodyB s), .int .i64 0]) ∧ Below w.heap.size w w' := by
  have hd : decide ((s.size : Int) - 4 < 0) = false := by simp; omega
  have hd' : decide ((s.size : Int) < 4) = false := by simp; omega
  have hex : (s.extract 0 (s.size - 4)).size ≤ 1000 := by rw [ByteArray.size_extract]; omega
  have hb := val_bool s hv
  have HV := Lib.hid hv
  clear hv
  go_enter Try.func22, Try.ntmps22
  go_wp2_with (go_at_call 24; refine (refsealed_any _ _ hex).mono ?_; rintro e w1 ⟨rfl, hb⟩)
  go_ret2
  exact ⟨rfl, by assumption⟩

set_option maxHeartbeats 400000 in
theorem refopen_bad (s : ByteArray) (w : World) (h : 4 ≤ s.size) (hs : s.size ≤ 1000) (hv : ¬ Val s) :
    Calls Try.prog 22 #[.string s] w fun e w' => e = .returned (.tuple #[.string ByteArray.empty, .int .i64 11]) ∧ Below w.heap.size w w' := by
  have hd : decide ((s.size : Int) - 4 < 0) = false := by simp; omega
  have hd' : decide ((s.size : Int) < 4) = false := by simp; omega
  have hex : (s.extract 0 (s.size - 4)).size ≤ 1000 := by rw [ByteArray.size_extract]; omega
  have hb := not_val_bool s hv
  have HV := Lib.hid hv
  clear hv
  go_enter Try.func22, Try.ntmps22
  go_wp2_with (go_at_call 24; refine (refsealed_any _ _ hex).mono ?_; rintro e w1 ⟨rfl, hb⟩)
  go_ret2
  exact ⟨rfl, by assumption⟩

end Go.Proofs.Ytlpejbmckidacaa

/-
  Walks of the small functions: numbers, words, what is valid. No condition.
-/
import Derived.Test.YthkpcalopmddpaaDoorRows
import Derived.Test.YthkpcalopmddpaaDoorBase
import Derived.Test.YthkpcalopmddpaaDoorSeqM
namespace Go.Proofs.YthkpcalopmddpaaDoor
open Go.RowKit

/-- A text. -/
abbrev bs (l : By) : ByteArray := ⟨l.toArray⟩
def sv (l : By) : Value := .string ⟨l.toArray⟩
theorem bs_of (s : ByteArray) : bs s.data.toList = s := by cases s; rfl
theorem ret_bs {a b : By} (h : a = b) : Ending.returned (.string ⟨a.toArray⟩) = .returned (.string ⟨b.toArray⟩) := by rw [h]

/-- Some bytes, made and converted at once. -/
theorem conv_new (w : World) (l : List Int) (n : Nat) (hn : n = l.length) :
    (convert 89 9 (.slice (some ⟨w.heap.size, 0, none⟩) n n)).run Tryd.prog (w.alloc (.cells (l.map (Value.int .u8)).toArray 5)) = .ok (.string (strOfNums l)) (w.alloc (.cells (l.map (Value.int .u8)).toArray 5)) := by
  refine run_convert_bytes_arg (P := Tryd.prog) _ 89 5 Tryd.underlying89 Tryd.underlying5 w.heap.size 0 n n l hn.symm ?_ 9 Tryd.underlying9
  intro i hi
  rw [cell_of_row _ _ _ _ _ _ (heap_alloc_new _ _)]
  have hl : i < l.length := by omega
  simp [List.getD, hl]
theorem conv1 (a : Int) (w : World) : (convert 89 9 (.slice (some ⟨w.heap.size, 0, none⟩) 1 1)).run Tryd.prog (w.alloc (.cells #[.int .u8 a] 5)) = .ok (.string (strOfNums [a])) (w.alloc (.cells #[.int .u8 a] 5)) := conv_new w [a] 1 rfl
theorem conv2 (a b : Int) (w : World) : (convert 89 9 (.slice (some ⟨w.heap.size, 0, none⟩) 2 2)).run Tryd.prog (w.alloc (.cells #[.int .u8 a, .int .u8 b] 5)) = .ok (.string (strOfNums [a, b])) (w.alloc (.cells #[.int .u8 a, .int .u8 b] 5)) := conv_new w [a, b] 2 rfl
theorem conv4 (a b c d : Int) (w : World) : (convert 89 9 (.slice (some ⟨w.heap.size, 0, none⟩) 4 4)).run Tryd.prog (w.alloc (.cells #[.int .u8 a, .int .u8 b, .int .u8 c, .int .u8 d] 5)) = .ok (.string (strOfNums [a, b, c, d])) (w.alloc (.cells #[.int .u8 a, .int .u8 b, .int .u8 c, .int .u8 d] 5)) := conv_new w [a, b, c, d] 4 rfl
theorem ext_drop (l : By) (k : Nat) : (ByteArray.mk l.toArray).extract k l.length = ⟨(l.drop k).toArray⟩ := by
  apply ByteArray.ext
  rw [ByteArray.data_extract]
  apply Array.ext'
  simp
  exact List.take_of_length_le (by rw [List.length_drop]; omega)
theorem ext_take (l : By) (k : Nat) : (ByteArray.mk l.toArray).extract 0 k = ⟨(l.take k).toArray⟩ := by
  apply ByteArray.ext
  rw [ByteArray.data_extract]
  apply Array.ext'
  simp
theorem b8_mod (n : Nat) : b8 (n % 256) = b8 n := by
  unfold b8; rw [← UInt8.toNat_inj]; simp
theorem ofI (n : Nat) : UInt8.ofNat ((n : Int) % 256).toNat = b8 n := by
  rw [← b8_mod]; unfold b8; congr 1

theorem ofN (n : Nat) : UInt8.ofNat ((n : Int)).toNat = b8 n := rfl
theorem word_str (n : Nat) : strOfNums [(n : Int) / 256, (n : Int) % 256, 0, 0] = bs (word n) := by
  unfold strOfNums word
  have e1 : UInt8.ofNat ((n : Int) / 256).toNat = b8 (n / 256) := ofN (n / 256)
  have e2 : UInt8.ofNat ((n : Int) % 256).toNat = b8 (n % 256) := ofN (n % 256)
  simp only [List.map_cons, List.map_nil, e1, e2]; rfl

set_option maxRecDepth 100000 in
set_option maxHeartbeats 400000 in
theorem word_any (n : Nat) (w : World) (h : n ≤ 65535) :
    Calls Tryd.prog 106 #[.int .i64 n] w fun e w' => e = .returned (.string (bs (word n))) ∧ Below w.heap.size w w' := by
  have hcv := fun a b c d W => conv4 a b c d W
  have H := Lib.hid (word_str n)
  have h1 : ¬ (n : Int) < 0 := by omega
  have h2 : ¬ (65535 : Int) < (n : Int) := by omega
  go_enter Tryd.func106, Tryd.ntmps106
  go_wp2
  go_ret
  exact ⟨ret_str H.out, (Below.refl _ _).alloc (by simp) _⟩
set_option maxRecDepth 100000 in
set_option maxHeartbeats 400000 in
theorem rword_any (n : Nat) (w : World) (h : n ≤ 65535) :
    Calls Tryd.prog 101 #[.int .i64 n] w fun e w' => e = .returned (.string (bs (word n))) ∧ Below w.heap.size w w' := by
  have hcv := fun a b c d W => conv4 a b c d W
  have H := Lib.hid (word_str n)
  have h1 : ¬ (n : Int) < 0 := by omega
  have h2 : ¬ (65535 : Int) < (n : Int) := by omega
  go_enter Tryd.func101, Tryd.ntmps101
  go_wp2
  go_ret
  exact ⟨ret_str H.out, (Below.refl _ _).alloc (by simp) _⟩

attribute [local go_sem] ByteArray.mk_append_mk
set_option maxRecDepth 100000 in
set_option maxHeartbeats 400000 in
theorem form_any (r : By) (w : World) (h : r.length ≤ 65000) :
    Calls Tryd.prog 87 #[.string ⟨r.toArray⟩] w fun e w' => e = .returned (.string (bs (form r))) ∧ Below w.heap.size w w' := by
  have hw := Lib.hid (word_any (4 + r.length) w (by omega))
  have hwl := word_length (4 + r.length)
  go_enter Tryd.func87, Tryd.ntmps87
  go_wp2_with fail
  refine hw.out.mono ?_
  rintro e w1 ⟨rfl, hb1⟩
  go_wp2
  go_ret
  exact ⟨ret_bs rfl, hb1⟩

set_option maxRecDepth 100000 in
set_option maxHeartbeats 400000 in
theorem whole_any (r : By) (w : World) (h : r.length ≤ 65000) :
    Calls Tryd.prog 88 #[.string ⟨r.toArray⟩] w fun e w' => e = .returned (.string (bs (whole r))) ∧ Below w.heap.size w w' := by
  have hw := Lib.hid (word_any (4 + r.length) w (by omega))
  have hwl := word_length (4 + r.length)
  go_enter Tryd.func88, Tryd.ntmps88
  go_wp2_with fail
  refine hw.out.mono ?_
  rintro e w1 ⟨rfl, hb1⟩
  go_wp2
  go_ret
  exact ⟨ret_bs rfl, hb1⟩
set_option maxRecDepth 100000 in
set_option maxHeartbeats 400000 in
theorem swhole_any (r : By) (w : World) (h : r.length ≤ 65000) :
    Calls Tryd.prog 108 #[.string ⟨r.toArray⟩] w fun e w' => e = .returned (.string (bs (whole r))) ∧ Below w.heap.size w w' := by
  have hw := Lib.hid (word_any (4 + r.length) w (by omega))
  have hwl := word_length (4 + r.length)
  go_enter Tryd.func108, Tryd.ntmps108
  go_wp2_with fail
  refine hw.out.mono ?_
  rintro e w1 ⟨rfl, hb1⟩
  go_wp2
  go_ret
  exact ⟨ret_bs rfl, hb1⟩

end Go.Proofs.YthkpcalopmddpaaDoor

/-
  Walks of Update and Sum, of the program and of the reference.
-/
import Derived.Test.YtlpejbmckidacaaW1
import Derived.RegionTactic
import Derived.ChangeAlike
namespace Go.Proofs.Ytlpejbmckidacaa
open Go.RowKit

def stepI (r b : Int) : Int := N ((B r >>> 4) ^^^ Crc.shn 4 ((B r ^^^ B b) &&& 15#32))

set_option maxHeartbeats 400000 in
theorem step_any (b r : Int) (p : Addr) (g : Nat) (w : World) (h0 : 0 ≤ r) (h1 : r ≤ 4294967295)
    (hx : w.cell? p = some (.int .u32 r)) (hfz : w.frozen? p = false) (hg : w.heap[g]? = some (.cells (tabA 16) 40 (0, 0))) :
    Calls Try.prog 28 #[.int .u32 b, .pointer (some p), .pointer (some ⟨g, 0, none⟩)] w fun e w' => e = .returned (.tuple #[]) ∧ w' = (w.setCell p (.int .u32 (stepI r b))).drew := by
  have HG := Lib.hid hg
  clear hg
  have hi : ∃ i : Nat, i < 16 ∧ bits .and .u32 (bits .xor .u32 r b) 15 = (i : Int) ∧ ((B r ^^^ B b) &&& 15#32) = B i := by
    refine ⟨((B r ^^^ B b) &&& 15#32).toNat, ?_, ?_, ?_⟩
    · have : ((B r ^^^ B b) &&& 15#32).toNat ≤ (15#32 : BitVec 32).toNat := by rw [BitVec.toNat_and]; exact Nat.and_le_right
      have e : (15#32 : BitVec 32).toNat = 15 := rfl
      omega
    · rw [bits_and, bits_xor, B_N]; rfl
    · have e : ∀ v : BitVec 32, v = B (v.toNat : Int) := fun v => (B_N v).symm
      exact e _
  obtain ⟨i, hi16, hi2, hi3⟩ := hi
  have hcell : w.cell? ⟨g, i, none⟩ = some (.int .u32 (N (Crc.shn 4 (B i)))) := by
    rw [cell_of_row _ _ _ _ _ _ HG.out, tabA_get _ _ hi16, if_pos hi16]
  have HI := Lib.hid hi3
  clear hi3
  go_enter Try.func28, Try.ntmps28
  go_region
  go_end0
  refine ⟨rfl, ?_⟩
  rw [bits_xor, B_N, show r / 16 = r / (2 ^ 4 : Nat) from rfl, B_div r 4 h0 h1, ← HI.out]; rfl

/-- Two steps of four bits are one byte. -/
theorem step_two (c : BitVec 32) (b : UInt8) : stepI (stepI (N c) (bits .and .u32 (b.toNat : Int) 15)) ((b.toNat : Int) / 16) = N (Crc.shn 8 (c ^^^ Crc.bv8 b)) := by
  have hb := b.toNat_lt
  have e1 : B (b.toNat : Int) = Crc.bv8 b := by unfold B Crc.bv8; rw [BitVec.ofInt_natCast]
  have e2 : B ((b.toNat : Int) / 16) = Crc.bv8 b >>> 4 := by
    rw [show (b.toNat : Int) / 16 = (b.toNat : Int) / (2 ^ 4 : Nat) from rfl, B_div _ 4 (by omega) (by omega), e1]
  have h15 : B 15 = 15#32 := rfl
  unfold stepI
  rw [B_N, B_N, bits_and, B_N, e1, e2, h15, Crc.byte_two]
  have hl : (Crc.bv8 b &&& 15#32).toNat < 16 := by
    have : (Crc.bv8 b &&& 15#32).toNat ≤ (15#32 : BitVec 32).toNat := by rw [BitVec.toNat_and]; exact Nat.and_le_right
    have e : (15#32 : BitVec 32).toNat = 15 := rfl
    omega
  rw [← Crc.quarter c _ hl]
  rw [Crc.quarter _ (Crc.bv8 b >>> 4) (by rw [BitVec.toNat_ushiftRight, Nat.shiftRight_eq_div_pow, Crc.bv8_toNat]; omega)]

theorem take_snoc (s : ByteArray) (k : Nat) (h : k < s.size) : s.data.toList.take (k + 1) = s.data.toList.take k ++ [s[k]] := by
  rw [List.take_succ_eq_append_getElem (by simpa using h)]; rfl
theorem run_step (s : ByteArray) (k : Nat) (h : k < s.size) (c : BitVec 32) : Crc.run c (s.data.toList.take (k + 1)) = Crc.shn 8 (Crc.run c (s.data.toList.take k) ^^^ Crc.bv8 s[k]) := by
  rw [take_snoc s k h, Crc.run_snoc]

theorem not32 (x : Int) : bits .xor .u32 4294967295 x = N (~~~ B x) := by
  rw [bits_xor, show B 4294967295 = BitVec.allOnes 32 from rfl, BitVec.allOnes_xor]

set_option maxHeartbeats 1000000 in
theorem update_any (c : Int) (s : ByteArray) (w : World) (hs : s.size ≤ maxLen) :
    Calls Try.prog 14 #[.int .u32 c, .string s] w fun e w' => e = .returned (.int .u32 (N (Crc.upd (B c) s.data.toList))) ∧ Below w.heap.size w w' := by
  unfold maxLen at hs
  go_enter Try.func14, Try.ntmps14
  go_wp2_with (first | (go_at_call 27; refine (table_any _).mono ?_; rintro e w1 ⟨rfl, hb⟩) | (refine wpList_store_row rfl _ _ _ rfl w1.heap.size (tabA 16) rfl rfl 40 _ (heap_alloc_new _ _) (by rw [size40, tabA_size]) (by rw [tabA_size]; rfl) (tabA_one 16) ?_))
  have hle := hb.size
  go_loopw [8] (fun i wr => ∃ (j : Nat) (r : Int), j ≤ s.size ∧ i = .int .i64 j ∧ r = N (Crc.run (~~~ B c) (s.data.toList.take j)) ∧ wr.heap[w1.heap.size]? = some (.cells (tabA 16) 40 (0, 0)) ∧ wr.heap[w1.heap.size + 1]? = some (.cells #[.int .u32 r] 22 (0, 0)) ∧ Below w.heap.size w wr) (fun i _ => s.size - (intOf i).toNat)
  case atStart =>
    refine ⟨0, bits BinOp.xor IntKind.u32 IntKind.u32.max c, by omega, rfl, ?_, ?_, ?_, ?_⟩
    rotate_left 1
    · rw [heap_alloc_old]
      · exact setRow_heap _ _ _ _ _ _ (heap_alloc_new _ _)
      · simp
    · have := heap_alloc_new ((w1.alloc (Obj.cells (tabA 0) 40)).setRow w1.heap.size (tabA 16)) (Obj.cells #[Value.int IntKind.u32 (bits BinOp.xor IntKind.u32 IntKind.u32.max c)] 22)
      simp only [size_setRow, World.size_alloc] at this
      exact this
    · exact (below_setRow (hb.alloc (by omega) _) (by omega) _).alloc (by simp; omega) _
    · show bits BinOp.xor IntKind.u32 4294967295 c = _
      rw [not32]; rfl
  case round =>
    obtain ⟨j, r, hj, rfl, hr, hA, hB, hbel⟩ := hrel
    have HA := Lib.hid hA
    have HB := Lib.hid hB
    have HR := Lib.hid hr
    have hr0 : 0 ≤ r := by rw [hr]; exact N_lo _
    have hr1 : r ≤ 4294967295 := by rw [hr]; exact N_hi _
    clear hA hB hr
    by_cases hlt : j < s.size
    · have hcell : wr.cell? ⟨w1.heap.size + 1, 0, none⟩ = some (.int .u32 r) := cell_of_one HB.out
      have hfree : wr.frozen? ⟨w1.heap.size + 1, 0, none⟩ = false := free_of_one HB.out
      have hbj : ((s[j].toNat : Nat) : Int) ≤ 255 := by have := s[j].toNat_lt; omega
      have E := Lib.hid (step_two (Crc.run (~~~ B c) (s.data.toList.take j)) s[j])
      go_wp2_with fail
      refine (step_any _ r _ _ _ hr0 hr1 hcell hfree HA.out).mono ?_
      rintro e w2 ⟨rfl, rfl⟩
      have q0 : 0 ≤ stepI r (bits .and .u32 (s[j].toNat : Int) 15) := N_lo _
      have q1 : stepI r (bits .and .u32 (s[j].toNat : Int) 15) ≤ 4294967295 := N_hi _
      have HA2 : Hid ((wr.setCell ⟨w1.heap.size + 1, 0, none⟩ (.int .u32 (stepI r (bits .and .u32 (s[j].toNat : Int) 15)))).drew.heap[w1.heap.size]? = some (.cells (tabA 16) 40 (0, 0))) :=
        (heap_setCell_other _ _ _ _ (by simp)).trans HA.out
      have HB2 : Hid ((wr.setCell ⟨w1.heap.size + 1, 0, none⟩ (.int .u32 (stepI r (bits .and .u32 (s[j].toNat : Int) 15)))).drew.heap[w1.heap.size + 1]? = some (.cells #[.int .u32 (stepI r (bits .and .u32 (s[j].toNat : Int) 15))] 22 (0, 0))) := one_setCell HB.out
      go_wp2_with fail
      refine (step_any _ (stepI r (bits .and .u32 (s[j].toNat : Int) 15)) _ _ _ q0 q1 (cell_of_one HB2.out) (free_of_one HB2.out) HA2.out).mono ?_
      rintro e w2 ⟨rfl, rfl⟩
      go_wp2_with fail
      go_roundw
      case rel =>
        refine ⟨j + 1, stepI (stepI r (bits .and .u32 (s[j].toNat : Int) 15)) ((s[j].toNat : Int) / 16), by omega, by go_num, ?_, ?_, ?_, ?_⟩
        rotate_left 1
        · exact (heap_setCell_other _ _ _ _ (by simp)).trans HA2.out
        · exact one_setCell HB2.out
        · exact (((hbel.setCell (by simp; omega) _).drew).setCell (by simp; omega) _).drew
        · rw [HR.out, E.out, run_step s j hlt]
      case measure => simp [intOf]; omega
    · have hjs : j = s.size := by omega
      subst hjs
      have hcell : wr.cell? ⟨w1.heap.size + 1, 0, none⟩ = some (.int .u32 r) := cell_of_one HB.out
      go_wp2_with fail
      go_ret
      refine ⟨ret_int ?_, hbel⟩
      show bits BinOp.xor IntKind.u32 4294967295 r = _
      rw [not32, HR.out, B_N, List.take_of_length_le (by simp)]; rfl

end Go.Proofs.Ytlpejbmckidacaa

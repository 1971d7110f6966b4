/-
  The walk of the exclusive or of a text and a mask.
-/
import Derived.Test.YtlpejbmckidacaaW7
import Derived.Test.YtlpejbmckidacaaM2
import Derived.Lib.ConvBytes
namespace Go.Proofs.Ytlpejbmckidacaa
open Go.RowKit Go.Sort

/-- A row of bytes with spare room. -/
def brow (l : List UInt8) (pad : Nat) : Array Value := (l.map fun b => Value.int .u8 (b.toNat : Int)).toArray ++ Array.replicate pad (.int .u8 0)
theorem brow_get (l : List UInt8) (pad i : Nat) (h : i < l.length) : (brow l pad)[i]? = some (.int .u8 ((l[i]).toNat : Int)) := by
  unfold brow
  rw [Array.getElem?_append_left (by simpa using h)]
  simp [h]
theorem brow_set (l : List UInt8) (pad i : Nat) (b : UInt8) (h : i < l.length) : (brow l pad).setIfInBounds i (.int .u8 (b.toNat : Int)) = brow (l.set i b) pad := by
  unfold brow
  rw [Array.setIfInBounds_append_left (by simpa using h)]
  congr 1
  simp [List.map_set]
theorem brow_size (l : List UInt8) (pad : Nat) : (brow l pad).size = l.length + pad := by simp [brow]
theorem cell_row_any (w : World) (g i : Nat) (cs : Array Value) (t : TypeId) (fr : Nat × Nat) (v : Value) (hg : w.heap[g]? = some (.cells cs t fr)) :
    (w.setCell ⟨g, i, none⟩ v).heap[g]? = some (.cells (cs.setIfInBounds i v) t fr) := by
  rw [setCell_eq_setRow w g i cs t fr v hg]
  exact setRow_heap w g cs _ t fr hg
theorem frozen_above (w : World) (g i : Nat) (cs : Array Value) (t : TypeId) (lo hi : Nat) (hg : w.heap[g]? = some (.cells cs t (lo, hi))) (h : i < lo) : w.frozen? ⟨g, i, none⟩ = false := by
  simp [World.frozen?, hg]; omega
theorem bytes_brow (w : World) (s : ByteArray) : Lib.bytesCells w 5 s = brow s.data.toList (grownCap w s.size 0 5 - s.size) := by
  unfold Lib.bytesCells brow
  congr 1
  apply Array.ext'
  simp

theorem below_bytes (w : World) (e : TypeId) (s : ByteArray) : Below w.heap.size w (Lib.bytesWorld w e s) :=
  ⟨rfl, rfl, rfl, by rw [Lib.bytesWorld_size]; omega, fun k hk => Lib.bytesWorld_at_old w e s k hk⟩

theorem string_back (w : World) (g cap n : Nat) (l : List UInt8) (pad : Nat) (fr : Nat × Nat) (hg : w.heap[g]? = some (.cells (brow l pad) 5 fr)) (hn : l.length = n) :
    (convert 45 9 (.slice (some ⟨g, 0, none⟩) n cap)).run Try.prog w = .ok (.string ⟨l.toArray⟩) w := by
  have h := run_convert_bytes_arg (P := Try.prog) w 45 5 underlying45 underlying5 g 0 n cap (l.map fun b => (b.toNat : Int)) (by simpa using hn) (fun i hi => by
    rw [Nat.zero_add, cell_of_row _ _ _ _ _ _ hg, brow_get l pad i (by omega)]
    simp [List.getD, List.getElem?_eq_getElem (show i < l.length by omega)]) 9 underlying9
  rw [h]
  congr 2
  unfold strOfNums
  congr 1
  rw [List.map_map]
  conv => rhs; rw [← List.map_id l]
  congr 1
  apply List.map_congr_left
  intro b _
  simp

set_option maxHeartbeats 1000000 in
theorem xor_any (s m : ByteArray) (p : Int) (w : World) (h0 : 0 ≤ p) (h1 : p ≤ 1000000) (hs : s.size ≤ 1000) (hm : m.size ≤ 1000) :
    Calls Try.prog 16 #[.string s, .int .i64 p, .string m] w fun e w' => e = .returned (.string ⟨(Crc.xorAt s.data.toList p.toNat m.data.toList).toArray⟩) ∧ Below w.heap.size w w' := by
  obtain ⟨P, rfl⟩ := Int.eq_ofNat_of_zero_le h0
  rw [Int.toNat_natCast]
  have kc := Lib.run_convert_string_bytes (P := Try.prog) w 9 45 5 s underlying9 underlying45 underlying5
  have hsl : s.data.toList.length = s.size := by rw [Array.length_toList]; rfl
  have hml : m.data.toList.length = m.size := by rw [Array.length_toList]; rfl
  have HSL := Lib.hid hsl
  have HML := Lib.hid hml
  clear hsl hml
  go_enter Try.func16, Try.ntmps16
  go_wp2
  clear kc
  go_loopw [8] (fun i wr => ∃ k : Nat, k ≤ m.size ∧ i = .int .i64 k ∧ wr.heap[w.heap.size]? = some (.cells (brow (Crc.xorAt s.data.toList P (m.data.toList.take k)) (grownCap w s.size 0 5 - s.size)) 5 ((s.size + (grownCap w s.size 0 5 - s.size)), (s.size + (grownCap w s.size 0 5 - s.size)) + 1)) ∧ Below w.heap.size w wr) (fun i _ => m.size - (intOf i).toNat)
  case atStart =>
    refine ⟨0, by omega, rfl, ?_, below_bytes _ _ _⟩
    rw [Lib.bytesWorld_at_new, bytes_brow, List.take_zero, Crc.xorAt_none, brow_size, HSL.out]
  case round =>
    obtain ⟨k, hk, rfl, hg, hbel⟩ := hrel
    have HG := Lib.hid hg
    clear hg
    by_cases hlt : k < m.size
    · by_cases hin : P + k < s.size
      · have hd1 : decide ((0 : Int) ≤ (P : Int) + (k : Int)) = true := by simp; omega
        have hd2 : decide ((P : Int) + (k : Int) < (s.size : Int)) = true := by simp; omega
        have hcell : wr.cell? ⟨w.heap.size, P + k, none⟩ = some (.int .u8 ((s[P + k]).toNat : Int)) := by
          rw [cell_of_row _ _ _ _ _ _ HG.out, brow_get _ _ _ (by rw [Crc.xorAt_length, HSL.out]; exact hin)]
          have := Crc.xorAt_here s.data.toList P m.data.toList k (by rw [HSL.out]; exact hin)
          rw [(List.getElem_eq_iff _).2 this]; rfl
        have hfree : wr.frozen? ⟨w.heap.size, P + k, none⟩ = false := frozen_above _ _ _ _ _ _ _ HG.out (by omega)
        go_wp2
        have w0 : IntKind.i64.wrap ((P : Int) + (k : Int)) = (P : Int) + (k : Int) := IntWalk.i64_in _ (by omega)
        have w1 : 0 ≤ (P : Int) + (k : Int) := by omega
        have w2 : ((P : Int) + (k : Int)).toNat = P + k := by omega
        go_region
        clear w0 w1 w2
        go_wp2
        go_roundw
        case rel =>
          refine ⟨k + 1, by omega, by go_num, ?_, (hbel.setCell (by simp) _).drew⟩
          have e8 : bits BinOp.xor IntKind.u8 (s[P + k].toNat : Int) (m[k].toNat : Int) = (((s[P + k] ^^^ m[k]).toNat : Nat) : Int) := by
            rw [u8_xor_nat _ _ (UInt8.toNat_lt _) (UInt8.toNat_lt _), UInt8.toNat_xor]
          rw [e8]
          refine (cell_row_any _ _ _ _ _ _ _ HG.out).trans ?_
          rw [brow_set _ _ _ _ (by rw [Crc.xorAt_length, HSL.out]; exact hin)]
          have := Crc.xorAt_step s.data.toList P m.data.toList k (by rw [HML.out]; exact hlt) (by rw [HSL.out]; exact hin)
          rw [← this]; rfl
        case measure => simp [intOf]; omega
      · go_wp2
        go_roundw
        case rel => exact ⟨k + 1, by omega, by go_num, by rw [← Crc.xorAt_out _ _ _ _ (by rw [HSL.out]; omega)]; exact HG.out, hbel⟩
        case measure => simp [intOf]; omega
    · have hjs : k = m.size := by omega
      subst hjs
      have kc := string_back wr w.heap.size (grownCap w s.size 0 5) s.size _ _ _ HG.out (by rw [Crc.xorAt_length, HSL.out])
      go_wp2
      go_ret
      exact ⟨ret_str (by rw [List.take_of_length_le (by rw [HML.out]; omega)]), hbel⟩

end Go.Proofs.Ytlpejbmckidacaa

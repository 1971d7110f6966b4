/-
  Walks: the number of the tracks of a list; the track with an index. Conditions: runs in memory as a slice; numbers of 64 bits.
-/
import Derived.Test.YtcidbmldbikknaaGreatDoorE7
namespace Go.Proofs.YtcidbmldbikknaaGreatDoor
open Go.RowKit Go.Sort
attribute [local go_sem ↓] loadRn_down storeRn_down

theorem field_rn (x y : Int) (W : World) : (Instr.field 68 (.agg #[.int .i64 x, .int .i64 y]) 1).run Tryz.prog W = .ok (.int .i64 y) W := by
  simp [Instr.field, go_sem, part, asAgg, Tryz.isAgg3]
attribute [local go_sem ↓] field_rn

set_option maxRecDepth 100000 in
set_option maxHeartbeats 4000000 in
theorem size_any (w : World) (B : Nat) (a : Option Addr) (cap : Nat) (l : List Rn) (h : Runs w B a l) (hB : B ≤ w.heap.size) (hl : l.length ≤ 1000000) :
    Calls Tryz.prog 21 #[.slice a l.length cap] w fun e w' => e = .returned (.int .i64 (seqP l).length) ∧ Below w.heap.size w w' := by
  have hT0 : (seqP l).length = 0 + (seqP (l.drop 0)).length := by simp
  generalize (seqP l).length = T at hT0 ⊢
  have HT0 := Lib.hid hT0
  have HR := Lib.hid h
  clear hT0 h
  go_enter Tryz.func21, Tryz.ntmps21
  go_wp2_with fail
  go_loopw [3, 8] (fun x k wr => ∃ j n : Nat, j ≤ l.length ∧ n ≤ 128 * j ∧ x = .int .i64 n ∧ k = .int .i64 j ∧ T = n + (seqP (l.drop j)).length ∧ Below w.heap.size w wr) (fun _ k _ => l.length - (intOf k).toNat)
  case atStart => exact ⟨0, 0, by omega, by omega, rfl, rfl, HT0.out, Below.refl _ _⟩
  case round =>
    clear HT0
    obtain ⟨j, n, hj, hn, rfl, rfl, hT, hb⟩ := hrel
    have HB := Lib.hid hb
    by_cases hlt : j < l.length
    · obtain ⟨b, off, rfl, hbb, hx, hy⟩ := HR.out.get hlt
      have hok := HR.out.ok l[j] (List.getElem_mem hlt)
      have x0 := (hb.cell (p := ⟨b, off + j * 2, none⟩) (Nat.lt_of_lt_of_le hbb hB)).trans hx
      have x1 := (hb.cell (p := ⟨b, off + j * 2 + 1, none⟩) (Nat.lt_of_lt_of_le hbb hB)).trans hy
      rw [List.drop_eq_getElem_cons hlt, seqP] at hT
      clear hb hx hy
      generalize l[j] = r at hT x0 x1 hok
      have hcl := clipP_le r
      have hcc := fun W => clip_any r hok W
      generalize clipP r = fc at hT hcl hcc
      obtain ⟨f, c⟩ := fc
      simp only at hT hcl hcc
      obtain ⟨p, q⟩ := r
      simp only at x0 x1 hcc
      have HC := Lib.hid (fun W => show Calls Tryz.prog 50 #[.agg #[.int .i64 p, .int .i64 q]] W fun e w' => e = .returned (.agg #[.int .i64 f, .int .i64 c]) ∧ Below W.heap.size W w' from hcc W)
      clear hcc hok
      obtain ⟨W1, hW1⟩ : ∃ W1, W1 = (wr.alloc (.cells #[.int .i64 0, .int .i64 0] 68)).setRow wr.heap.size #[.int .i64 p, .int .i64 q] := ⟨_, rfl⟩
      have st1 := storeRn_at (cs := #[.int .i64 p, .int .i64 q]) (heap_alloc_new wr (.cells #[.int .i64 0, .int .i64 0] 68)) rfl rfl (rnC_one _ _)
      have hg1 : W1.heap[wr.heap.size]? = some (.cells #[.int .i64 p, .int .i64 q] 68 (0, 0)) := by rw [hW1]; exact setRow_heap _ _ _ _ _ _ (heap_alloc_new _ _)
      have HB1 := Lib.hid (show Below w.heap.size w W1 by rw [hW1]; exact Below.setRow (HB.out.alloc HB.out.size _) HB.out.size _)
      rw [← hW1] at st1
      have dl1 := loadRn_at hg1 rfl
      clear hW1 hg1
      have dl0 := loadRn_mid x0 x1
      have dl0' : (loadRn ⟨b, off + j * 2, none⟩).run Tryz.prog (wr.alloc (.cells #[.int .i64 0, .int .i64 0] 68)) = .ok (.agg #[.int .i64 p, .int .i64 q]) (wr.alloc (.cells #[.int .i64 0, .int .i64 0] 68)) := by
        have hbl : b < wr.heap.size := block_lt_of_cell x0
        have hba := box_below wr #[.int .i64 0, .int .i64 0] 68
        exact loadRn_mid ((hba.cell (p := ⟨b, off + j * 2, none⟩) hbl).trans x0) ((hba.cell (p := ⟨b, off + j * 2 + 1, none⟩) hbl).trans x1)
      have HT := Lib.hid (show T = n + c + (seqP (l.drop (j + 1))).length by rw [hT, List.length_append, List.length_range']; omega)
      have hcI : 0 ≤ (n : Int) + c ∧ (n : Int) + c ≤ 200000000 := by omega
      clear hT
      go_wp2_with fail
      refine (HC.out _).mono ?_
      rintro e w2 ⟨rfl, hb2⟩
      have HB3 := Lib.hid (HB1.out.trans (hb2.mono HB1.out.size))
      clear hb2 dl0 dl0' dl1 st1 x0 x1
      go_wp2_with fail
      go_roundw
      case rel => exact ⟨j + 1, n + c, by omega, by omega, by go_num, by go_num, HT.out, HB3.out⟩
      case measure => simp [intOf]; omega
    · have HT := Lib.hid (show T = n by rw [hT, List.drop_eq_nil_of_le (by omega)]; simp [seqP])
      clear hT hb
      go_wp2_with fail
      go_ret
      rw [HT.out]
      exact ⟨rfl, HB.out⟩

def atR : Option Nat → Value
  | some t => .tuple #[.int .i64 t, .bool true]
  | none => .tuple #[.int .i64 0, .bool false]
theorem at_range (rest : List Nat) (f c i : Nat) : (List.range' f c ++ rest)[i]? = if i < c then some (f + i) else rest[i - c]? := by
  by_cases h : i < c
  · rw [if_pos h, List.getElem?_append_left (by simpa using h), List.getElem?_range' (by simpa using h), Nat.one_mul]
  · rw [if_neg h, List.getElem?_append_right (by simpa using h), List.length_range']

set_option maxRecDepth 100000 in
set_option maxHeartbeats 4000000 in
theorem at_any (w : World) (B : Nat) (a : Option Addr) (cap : Nat) (l : List Rn) (i : Nat) (h : Runs w B a l) (hB : B ≤ w.heap.size) (hl : l.length ≤ 1000000) (hi : i ≤ 9223372036854775807) :
    Calls Tryz.prog 33 #[.slice a l.length cap, .int .i64 i] w fun e w' => e = .returned (atR ((seqP l)[i]?)) ∧ Below w.heap.size w w' := by
  have hT0 : (seqP l)[i]? = (seqP (l.drop 0))[i]? := rfl
  generalize (seqP l)[i]? = T at hT0 ⊢
  have HT0 := Lib.hid hT0
  have HR := Lib.hid h
  have hi0 : (0 : Int) ≤ (i : Int) := by omega
  clear hT0 h
  go_enter Tryz.func33, Tryz.ntmps33
  go_wp2_with fail
  go_loopw [1, 12] (fun x k wr => ∃ j n : Nat, j ≤ l.length ∧ n ≤ i ∧ x = .int .i64 n ∧ k = .int .i64 j ∧ T = (seqP (l.drop j))[n]? ∧ Below w.heap.size w wr) (fun _ k _ => l.length - (intOf k).toNat)
  case atStart => exact ⟨0, i, by omega, by omega, rfl, rfl, HT0.out, Below.refl _ _⟩
  case round =>
    clear HT0
    obtain ⟨j, n, hj, hn, rfl, rfl, hT, hb⟩ := hrel
    have HB := Lib.hid hb
    by_cases hlt : j < l.length
    · obtain ⟨b, off, rfl, hbb, hx, hy⟩ := HR.out.get hlt
      have hok := HR.out.ok l[j] (List.getElem_mem hlt)
      have x0 := (hb.cell (p := ⟨b, off + j * 2, none⟩) (Nat.lt_of_lt_of_le hbb hB)).trans hx
      have x1 := (hb.cell (p := ⟨b, off + j * 2 + 1, none⟩) (Nat.lt_of_lt_of_le hbb hB)).trans hy
      rw [List.drop_eq_getElem_cons hlt, seqP, at_range] at hT
      clear hb hx hy
      generalize l[j] = r at hT x0 x1 hok
      have hcl := clipP_le r
      have hcc := fun W => clip_any r hok W
      generalize clipP r = fc at hT hcl hcc
      obtain ⟨f, c⟩ := fc
      simp only at hT hcl hcc
      obtain ⟨p, q⟩ := r
      simp only at x0 x1 hcc
      have HC := Lib.hid (fun W => show Calls Tryz.prog 50 #[.agg #[.int .i64 p, .int .i64 q]] W fun e w' => e = .returned (.agg #[.int .i64 f, .int .i64 c]) ∧ Below W.heap.size W w' from hcc W)
      clear hcc hok
      obtain ⟨W1, hW1⟩ : ∃ W1, W1 = (wr.alloc (.cells #[.int .i64 0, .int .i64 0] 68)).setRow wr.heap.size #[.int .i64 p, .int .i64 q] := ⟨_, rfl⟩
      have st1 := storeRn_at (cs := #[.int .i64 p, .int .i64 q]) (heap_alloc_new wr (.cells #[.int .i64 0, .int .i64 0] 68)) rfl rfl (rnC_one _ _)
      have hg1 : W1.heap[wr.heap.size]? = some (.cells #[.int .i64 p, .int .i64 q] 68 (0, 0)) := by rw [hW1]; exact setRow_heap _ _ _ _ _ _ (heap_alloc_new _ _)
      have HB1 := Lib.hid (show Below w.heap.size w W1 by rw [hW1]; exact Below.setRow (HB.out.alloc HB.out.size _) HB.out.size _)
      rw [← hW1] at st1
      have dl1 := loadRn_at hg1 rfl
      have HG1 := Lib.hid hg1
      clear hW1 hg1
      have dl0 := loadRn_mid x0 x1
      have dl0' : (loadRn ⟨b, off + j * 2, none⟩).run Tryz.prog (wr.alloc (.cells #[.int .i64 0, .int .i64 0] 68)) = .ok (.agg #[.int .i64 p, .int .i64 q]) (wr.alloc (.cells #[.int .i64 0, .int .i64 0] 68)) := by
        have hbl : b < wr.heap.size := block_lt_of_cell x0
        have hba := box_below wr #[.int .i64 0, .int .i64 0] 68
        exact loadRn_mid ((hba.cell (p := ⟨b, off + j * 2, none⟩) hbl).trans x0) ((hba.cell (p := ⟨b, off + j * 2 + 1, none⟩) hbl).trans x1)
      have HTT := Lib.hid hT
      clear hT
      go_wp2_with fail
      refine (HC.out _).mono ?_
      rintro e w2 ⟨rfl, hb2⟩
      have hg2 := (hb2.block wr.heap.size (lt_of_block HG1.out)).trans HG1.out
      obtain ⟨W3, hW3⟩ : ∃ W3, W3 = w2.setRow wr.heap.size #[.int .i64 f, .int .i64 c] := ⟨_, rfl⟩
      have st3 := storeRn_at (cs := #[.int .i64 f, .int .i64 c]) hg2 rfl rfl (rnC_one _ _)
      have hg3 : W3.heap[wr.heap.size]? = some (.cells #[.int .i64 f, .int .i64 c] 68 (0, 0)) := by rw [hW3]; exact setRow_heap _ _ _ _ _ _ hg2
      have HB3 := Lib.hid (show Below w.heap.size w W3 by rw [hW3]; exact Below.setRow (HB1.out.trans (hb2.mono HB1.out.size)) HB.out.size _)
      rw [← hW3] at st3
      have c0 := cell_at (i := 0) (v := .int .i64 f) hg3 rfl
      have c1 := cell_at (i := 1) (v := .int .i64 c) hg3 rfl
      clear hb2 hg2 hW3 hg3 dl0 dl0' dl1 st1 x0 x1
      by_cases hin : n < c
      · have HT := Lib.hid (show T = some (f + n) by rw [HTT.out, if_pos hin])
        have hinI : (n : Int) < (c : Int) := by omega
        have HV := Lib.hid (show ((f + n : Nat) : Int) = (f : Int) + n by omega)
        clear HTT
        go_wp2_with fail
        go_ret2
        rw [HT.out]
        exact ⟨by show _ = Ending.returned (.tuple #[.int .i64 ((f + n : Nat) : Int), .bool true]); rw [HV.out]; rfl, HB3.out⟩
      · have HT := Lib.hid (show T = (seqP (l.drop (j + 1)))[n - c]? by rw [HTT.out, if_neg hin])
        have hinI : ¬ (n : Int) < (c : Int) := by omega
        clear HTT
        go_wp2_with fail
        go_roundw
        case rel => exact ⟨j + 1, n - c, by omega, by omega, by go_num, by go_num, HT.out, HB3.out⟩
        case measure => simp [intOf]; omega
    · have HT := Lib.hid (show T = none by rw [hT, List.drop_eq_nil_of_le (by omega)]; simp [seqP])
      clear hT hb
      go_wp2_with fail
      go_ret2
      rw [HT.out]
      exact ⟨rfl, HB.out⟩

end Go.Proofs.YtcidbmldbikknaaGreatDoor

/-
  Walk: whether a track is in one of some runs, by the reference. Conditions: runs in memory as a slice; numbers of 64 bits.
-/
import Derived.Test.YtcidbmldbikknaaGreatDoorE7
namespace Go.Proofs.YtcidbmldbikknaaGreatDoor
open Go.RowKit Go.Sort
attribute [local go_sem ↓] loadRn_down storeRn_down

def inC (c : Nat × Nat) (t : Nat) : Bool := decide (c.1 ≤ t) && decide (t < c.1 + c.2)
/-- Whether a track is in one of some runs. -/
def inP : List Rn → Nat → Bool
  | [], _ => false
  | r :: l, t => if inC (clipP r) t = true then true else inP l t

set_option maxRecDepth 100000 in
set_option maxHeartbeats 2000000 in
theorem in_any (w : World) (B : Nat) (a : Option Addr) (cap : Nat) (l : List Rn) (t : Nat) (h : Runs w B a l) (hB : B ≤ w.heap.size) (hl : l.length ≤ 1000000) (ht : t ≤ 128) :
    Calls Tryz.prog 132 #[.slice a l.length cap, .int .i64 t] w fun e w' => e = .returned (.bool (inP l t)) ∧ Below w.heap.size w w' := by
  have hT0 : inP l t = inP (l.drop 0) t := rfl
  generalize inP l t = T at hT0 ⊢
  have HT0 := Lib.hid hT0
  have HR := Lib.hid h
  clear hT0 h
  go_enter Tryz.func132, Tryz.ntmps132
  go_wp2_with fail
  go_loopw [5] (fun k wr => ∃ j : Nat, j ≤ l.length ∧ k = .int .i64 j ∧ T = inP (l.drop j) t ∧ Below w.heap.size w wr) (fun k _ => l.length - (intOf k).toNat)
  case atStart => exact ⟨0, by omega, rfl, HT0.out, Below.refl _ _⟩
  case round =>
    clear HT0
    obtain ⟨j, hj, rfl, hT, hb⟩ := hrel
    have HB := Lib.hid hb
    by_cases hlt : j < l.length
    · obtain ⟨b, off, rfl, hbb, hx, hy⟩ := HR.out.get hlt
      have hok := HR.out.ok l[j] (List.getElem_mem hlt)
      have x0 := (hb.cell (p := ⟨b, off + j * 2, none⟩) (Nat.lt_of_lt_of_le hbb hB)).trans hx
      have x1 := (hb.cell (p := ⟨b, off + j * 2 + 1, none⟩) (Nat.lt_of_lt_of_le hbb hB)).trans hy
      rw [List.drop_eq_getElem_cons hlt, inP] at hT
      clear hb hx hy
      generalize l[j] = r at hT x0 x1 hok
      have dl0 := loadRn_mid x0 x1
      have hcl := clipP_le r
      have hcc := fun W => rclip_any r hok W
      generalize clipP r = fc at hT hcl hcc
      obtain ⟨f, c⟩ := fc
      simp only at hT hcl hcc
      obtain ⟨p, q⟩ := r
      simp only at x0 x1 dl0 hcc
      have HC := Lib.hid (fun W => show Calls Tryz.prog 63 #[.agg #[.int .i64 p, .int .i64 q]] W fun e w' => e = .returned (.agg #[.int .i64 f, .int .i64 c]) ∧ Below W.heap.size W w' from hcc W)
      have HT := Lib.hid hT
      clear hcc hok hT x0 x1
      go_wp2_with fail
      refine (HC.out _).mono ?_
      rintro e w2 ⟨rfl, hb2⟩
      obtain ⟨W3, hW3⟩ : ∃ W3, W3 = (w2.alloc (.cells #[.int .i64 0, .int .i64 0] 68)).setRow w2.heap.size #[.int .i64 f, .int .i64 c] := ⟨_, rfl⟩
      have st3 := storeRn_at (cs := #[.int .i64 f, .int .i64 c]) (heap_alloc_new w2 (.cells #[.int .i64 0, .int .i64 0] 68)) rfl rfl (rnC_one _ _)
      have hg3 : W3.heap[w2.heap.size]? = some (.cells #[.int .i64 f, .int .i64 c] 68 (0, 0)) := by rw [hW3]; exact setRow_heap _ _ _ _ _ _ (heap_alloc_new _ _)
      have hb23 : Below w2.heap.size w2 W3 := by rw [hW3]; exact Below.setRow (box_below _ _ _) (Nat.le_refl _) _
      have HB2 := HB.out.trans (hb2.mono HB.out.size)
      have HB3 := Lib.hid (HB2.trans (hb23.mono HB2.size))
      rw [← hW3] at st3
      have c0 := cell_at (i := 0) (v := .int .i64 f) hg3 rfl
      have c1 := cell_at (i := 1) (v := .int .i64 c) hg3 rfl
      clear hb2 hW3 hg3 hb23 HB2 dl0
      by_cases i1 : f ≤ t
      · have i1I : (f : Int) ≤ (t : Int) := by omega
        by_cases i2 : t < f + c
        · have i2I : (t : Int) < (f : Int) + (c : Int) := by omega
          have HQ := Lib.hid (show T = true by rw [HT.out, if_pos (by simp [inC, i1, i2])])
          go_wp2_with fail
          go_ret
          rw [HQ.out]
          exact ⟨rfl, HB3.out⟩
        · have i2I : ¬ (t : Int) < (f : Int) + (c : Int) := by omega
          have HQ := Lib.hid (show T = inP (l.drop (j + 1)) t by rw [HT.out, if_neg (by simp [inC]; omega)])
          go_wp2_with fail
          go_roundw
          case rel => exact ⟨j + 1, by omega, by go_num, HQ.out, HB3.out⟩
          case measure => simp [intOf]; omega
      · have i1I : ¬ (f : Int) ≤ (t : Int) := by omega
        have HQ := Lib.hid (show T = inP (l.drop (j + 1)) t by rw [HT.out, if_neg (by simp [inC]; omega)])
        go_wp2_with fail
        go_roundw
        case rel => exact ⟨j + 1, by omega, by go_num, HQ.out, HB3.out⟩
        case measure => simp [intOf]; omega
    · have HQ := Lib.hid (show T = false by rw [hT, List.drop_eq_nil_of_le (by omega)]; rfl)
      clear hT hb
      go_wp2_with fail
      go_ret
      rw [HQ.out]
      exact ⟨rfl, HB.out⟩

end Go.Proofs.YtcidbmldbikknaaGreatDoor

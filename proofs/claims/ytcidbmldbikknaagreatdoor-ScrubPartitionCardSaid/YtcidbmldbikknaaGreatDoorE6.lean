/-
  Walk: the place of a track in a list of runs, by the program. Conditions: runs in memory as a slice; numbers of 64 bits.
-/
import Derived.Test.YtcidbmldbikknaaGreatDoorE5
namespace Go.Proofs.YtcidbmldbikknaaGreatDoor
open Go.RowKit Go.Sort
attribute [local go_sem ↓] loadRn_down storeRn_down

/-- Runs in cells below a block. -/
structure Runs (w : World) (B : Nat) (a : Option Addr) (l : List Rn) : Prop where
  cells : l ≠ [] → ∃ b off, a = some ⟨b, off, none⟩ ∧ b < B ∧ ∀ i (h : i < l.length), w.cell? ⟨b, off + i * 2, none⟩ = some (.int .i64 l[i].1) ∧ w.cell? ⟨b, off + i * 2 + 1, none⟩ = some (.int .i64 l[i].2)
  ok : ∀ r ∈ l, okRn r
theorem Runs.below {w w' : World} {B : Nat} {a : Option Addr} {l : List Rn} (h : Runs w B a l) (hb : Below B w w') : Runs w' B a l :=
  ⟨fun hl => by obtain ⟨b, off, h1, h2, h3⟩ := h.cells hl; exact ⟨b, off, h1, h2, fun i hi => ⟨(hb.cell (p := ⟨b, off + i * 2, none⟩) h2).trans (h3 i hi).1, (hb.cell (p := ⟨b, off + i * 2 + 1, none⟩) h2).trans (h3 i hi).2⟩⟩, h.ok⟩
theorem Runs.mono {w : World} {B B' : Nat} {a : Option Addr} {l : List Rn} (h : Runs w B a l) (hB : B ≤ B') : Runs w B' a l :=
  ⟨fun hl => by obtain ⟨b, off, h1, h2, h3⟩ := h.cells hl; exact ⟨b, off, h1, Nat.lt_of_lt_of_le h2 hB, h3⟩, h.ok⟩
theorem runs_nil (w : World) (B : Nat) (a : Option Addr) : Runs w B a [] := ⟨fun h => absurd rfl h, fun r hr => by cases hr⟩
theorem Runs.get {w : World} {B : Nat} {a : Option Addr} {l : List Rn} (h : Runs w B a l) {i : Nat} (hi : i < l.length) : ∃ b off, a = some ⟨b, off, none⟩ ∧ b < B ∧ w.cell? ⟨b, off + i * 2, none⟩ = some (.int .i64 l[i].1) ∧ w.cell? ⟨b, off + i * 2 + 1, none⟩ = some (.int .i64 l[i].2) := by
  obtain ⟨b, off, h1, h2, h3⟩ := h.cells (fun e => by rw [e] at hi; simp at hi)
  exact ⟨b, off, h1, h2, h3 i hi⟩
/-- A run out of the middle of a row. -/
theorem loadRn_mid {w : World} {b o : Nat} {x y : Int} (h0 : w.cell? ⟨b, o, none⟩ = some (.int .i64 x)) (h1 : w.cell? ⟨b, o + 1, none⟩ = some (.int .i64 y)) : (loadRn ⟨b, o, none⟩).run Tryz.prog w = .ok (.agg #[.int .i64 x, .int .i64 y]) w :=
  run_loadVar_mid (P := Tryz.prog) w b o 68 [.int .i64 x, .int .i64 y] _ (fun j v hj => by
    match j with
    | 0 => simp at hj; subst hj; exact h0
    | 1 => simp at hj; subst hj; exact h1
    | j + 2 => simp at hj) Tryz.underlying68 rfl (by rw [info_rn]; rfl)
def idxR : Option Nat → Value
  | some n => .tuple #[.int .i64 n, .bool true]
  | none => .tuple #[.int .i64 0, .bool false]

set_option maxRecDepth 100000 in
set_option maxHeartbeats 4000000 in
theorem index_any (w : World) (B : Nat) (a : Option Addr) (cap : Nat) (l : List Rn) (t : Int) (h : Runs w B a l) (hB : B ≤ w.heap.size) (hl : l.length ≤ 1000000) (ht : okI t) :
    Calls Tryz.prog 53 #[.slice a l.length cap, .int .i64 t] w fun e w' => e = .returned (idxR (idxP l 0 t)) ∧ Below w.heap.size w w' := by
  obtain ⟨t1, t2⟩ := ht
  have hT0 : idxP l 0 t = idxP (l.drop 0) 0 t := rfl
  generalize idxP l 0 t = T at hT0 ⊢
  have HT0 := Lib.hid hT0
  have HR := Lib.hid h
  clear hT0 h
  go_enter Tryz.func53, Tryz.ntmps53
  go_wp2_with fail
  go_loopw [6, 11] (fun x k wr => ∃ j n : Nat, j ≤ l.length ∧ n ≤ 128 * j ∧ x = .int .i64 n ∧ k = .int .i64 j ∧ T = idxP (l.drop j) n t ∧ Below w.heap.size w wr) (fun _ k _ => l.length - (intOf k).toNat)
  case atStart => exact ⟨0, 0, by omega, by omega, rfl, rfl, HT0.out, Below.refl _ _⟩
  case round =>
    clear HT0
    obtain ⟨j, n, hj, hn, rfl, rfl, hT, hb⟩ := hrel
    have HB := Lib.hid hb
    by_cases hlt : j < l.length
    · obtain ⟨b, off, rfl, hbb, hx, hy⟩ := HR.out.get hlt
      have hok := HR.out.ok l[j] (List.getElem_mem hlt)
      have x0 := (hb.cell (p := ⟨b, off + j * 2, none⟩) (Nat.lt_of_lt_of_le hbb hB)).trans hx
      have x1 := (hb.cell (p := ⟨b, off + j * 2 + 1, none⟩) (Nat.lt_of_lt_of_le hbb hB)).trans hy
      rw [List.drop_eq_getElem_cons hlt, idxP] at hT
      clear hb hx hy
      generalize l[j] = r at hT x0 x1 hok
      have dl0 := loadRn_mid x0 x1
      have hcl := clipP_le r
      have hcc := fun W => clip_any r hok W
      generalize clipP r = fc at hT hcl hcc
      obtain ⟨f, c⟩ := fc
      simp only at hT hcl hcc
      obtain ⟨p, q⟩ := r
      simp only at x0 x1 dl0 hcc
      have HC := Lib.hid (fun W => show Calls Tryz.prog 50 #[.agg #[.int .i64 p, .int .i64 q]] W fun e w' => e = .returned (.agg #[.int .i64 f, .int .i64 c]) ∧ Below W.heap.size W w' from hcc W)
      clear hcc hok
      obtain ⟨W1, hW1⟩ : ∃ W1, W1 = (wr.alloc (.cells #[.int .i64 0, .int .i64 0] 68)).setRow wr.heap.size #[.int .i64 p, .int .i64 q] := ⟨_, rfl⟩
      have st1 := storeRn_at (cs := #[.int .i64 p, .int .i64 q]) (heap_alloc_new wr (.cells #[.int .i64 0, .int .i64 0] 68)) rfl rfl (rnC_one _ _)
      have hg1 : W1.heap[wr.heap.size]? = some (.cells #[.int .i64 p, .int .i64 q] 68 (0, 0)) := by rw [hW1]; exact setRow_heap _ _ _ _ _ _ (heap_alloc_new _ _)
      have HB1 := Lib.hid (show Below w.heap.size w W1 by rw [hW1]; exact Below.setRow (HB.out.alloc HB.out.size _) HB.out.size _)
      rw [← hW1] at st1
      have dl1 := loadRn_at hg1 rfl
      have HG1 := Lib.hid hg1
      clear hW1 hg1
      have dl0' : (loadRn ⟨b, off + j * 2, none⟩).run Tryz.prog (wr.alloc (.cells #[.int .i64 0, .int .i64 0] 68)) = .ok (.agg #[.int .i64 p, .int .i64 q]) (wr.alloc (.cells #[.int .i64 0, .int .i64 0] 68)) := by
        have hbl : b < wr.heap.size := block_lt_of_cell x0
        have hba := box_below wr #[.int .i64 0, .int .i64 0] 68
        exact loadRn_mid ((hba.cell (p := ⟨b, off + j * 2, none⟩) hbl).trans x0) ((hba.cell (p := ⟨b, off + j * 2 + 1, none⟩) hbl).trans x1)
      go_wp2_with fail
      refine (HC.out _).mono ?_
      rintro e w2 ⟨rfl, hb2⟩
      have hg2 := (hb2.block wr.heap.size (lt_of_block HG1.out)).trans HG1.out
      obtain ⟨W3, hW3⟩ : ∃ W3, W3 = w2.setRow wr.heap.size #[.int .i64 f, .int .i64 c] := ⟨_, rfl⟩
      have st3 := storeRn_at (cs := #[.int .i64 f, .int .i64 c]) hg2 rfl rfl (rnC_one _ _)
      have hg3 : W3.heap[wr.heap.size]? = some (.cells #[.int .i64 f, .int .i64 c] 68 (0, 0)) := by rw [hW3]; exact setRow_heap _ _ _ _ _ _ hg2
      have HB3 := Lib.hid (show Below w.heap.size w W3 by rw [hW3]; exact Below.setRow (HB1.out.trans (hb2.mono HB1.out.size)) HB.out.size _)
      rw [← hW3] at st3
      have c0 := cell_at (i := 0) (v := .int .i64 f) hg3 rfl
      have c1 := cell_at (i := 1) (v := .int .i64 c) hg3 rfl
      clear hb2 hg2 hW3 hg3 dl0 dl0' dl1 st1 x0 x1
      by_cases hin : (f : Int) ≤ t ∧ t < ((f + c : Nat) : Int)
      · obtain ⟨i1, i2⟩ := hin
        have i3 : t < (f : Int) + (c : Int) := by omega
        have HT := Lib.hid (show T = some (n + (t - f).toNat) by rw [hT, if_pos ⟨i1, i2⟩])
        have HV := Lib.hid (show ((n + (t - f).toNat : Nat) : Int) = (n : Int) + t - f by omega)
        clear hT i2
        go_wp2_with fail
        go_ret2
        rw [HT.out]
        exact ⟨by show _ = Ending.returned (.tuple #[.int .i64 ((n + (t - f).toNat : Nat) : Int), .bool true]); rw [HV.out]; rfl, HB3.out⟩
      · have HT := Lib.hid (show T = idxP (l.drop (j + 1)) (n + c) t by rw [hT, if_neg hin])
        by_cases i1 : (f : Int) ≤ t
        · have i3 : ¬ t < (f : Int) + (c : Int) := by omega
          clear hT hin
          go_wp2_with fail
          go_roundw
          case rel => exact ⟨j + 1, n + c, by omega, by omega, by go_num, by go_num, HT.out, HB3.out⟩
          case measure => simp [intOf]; omega
        · clear hT hin
          go_wp2_with fail
          go_roundw
          case rel => exact ⟨j + 1, n + c, by omega, by omega, by go_num, by go_num, HT.out, HB3.out⟩
          case measure => simp [intOf]; omega
    · have hn0 : T = none := by rw [hT, List.drop_eq_nil_of_le (by omega)]; rfl
      have HT := Lib.hid hn0
      clear hT hb hn0
      go_wp2_with fail
      go_ret2
      rw [HT.out]
      exact ⟨rfl, HB.out⟩

end Go.Proofs.YtcidbmldbikknaaGreatDoor

/-
  Walks: the head of a data set is read. Condition: sectors.
-/
import Derived.Test.YthkpcalopmddpaaGreatDoorGK
import Derived.Test.YthkpcalopmddpaaGreatDoorGD
namespace Go.Proofs.YthkpcalopmddpaaGreatDoor
open Go.RowKit Go.Sort
attribute [local go_sem] strOfNums_size

/-- The reader's state behind k numbers. -/
def hdS (s : By) : Nat → By × Int
  | 0 => (s, 0)
  | k + 1 => (cntR 1099511627776 (hdS s k).1 (hdS s k).2).2
def hdX (s : By) (k : Nat) : Nat := (cntR 1099511627776 (hdS s k).1 (hdS s k).2).1
/-- What the head of a sector says. -/
def hdV (s : By) : Nat × Nat × Nat × Int :=
  if (hdS s 3).1 = [] ∨ (hdS s 3).1 ≠ zeros (hdS s 3).1.length then (0, 0, 0, 11) else (hdX s 0, hdX s 1, hdX s 2, 0)
def headV (l : List By) : Nat × Nat × Nat × Int := if (pageV l 0).2 = 0 then hdV (pageV l 0).1 else (0, 0, 0, (pageV l 0).2)
theorem hdS_len (s : By) : ∀ k, (hdS s k).1.length ≤ s.length
  | 0 => Nat.le_refl _
  | k + 1 => Nat.le_trans (cntR_len _ _ _) (hdS_len s k)
/-- The array of numbers behind k of them. -/
def hdA (s : By) (k : Nat) : Array Value := #[.int .i64 ((if 0 < k then hdX s 0 else 0 : Nat) : Int), .int .i64 ((if 1 < k then hdX s 1 else 0 : Nat) : Int), .int .i64 ((if 2 < k then hdX s 2 else 0 : Nat) : Int)]
theorem hdA_set (s : By) (k : Nat) (h : k < 3) : (hdA s k).setIfInBounds k (.int .i64 (hdX s k : Nat)) = hdA s (k + 1) := by
  have h3 : k = 0 ∨ k = 1 ∨ k = 2 := by omega
  rcases h3 with rfl | rfl | rfl <;> rfl
theorem pageV_len (l : List By) (n : Nat) : (pageV l n).1.length ≤ 128 := by
  unfold pageV
  split
  · simp
  · split
    · rename_i h; simp only; omega
    · simp
theorem bodyPost_ret4 {fn : Func} {R : Ending → World → Prop} {a : Act} {w : World} {p0 p1 p2 p3 : Tmp} {v0 v1 v2 v3 : Value} (hr : fn.results = #[.tmp p0, .tmp p1, .tmp p2, .tmp p3]) (h0 : a.tmps.getD p0 undef = v0) (h1 : a.tmps.getD p1 undef = v1) (h2 : a.tmps.getD p2 undef = v2) (h3 : a.tmps.getD p3 undef = v3)
    (hd : a.defers = []) (hR : R (.returned (.tuple #[v0, v1, v2, v3])) w) : bodyPost Tryz.prog fn R .ret a w := by
  subst h0 h1 h2 h3
  exact bodyPost_ret (by simp [results, hr, go_sem]) hd hR
/-- What the loop of Head holds. -/
structure HdSt (w : World) (g ar : Nat) (s : By) (W : World) (k : Nat) : Prop where
  bel : Below w.heap.size w W
  rd : RdAt W g (hdS s k).1 (hdS s k).2
  arr : W.heap[ar]? = some (.cells (hdA s k) 65 (0, 0))

set_option maxRecDepth 100000 in
set_option maxHeartbeats 2000000 in
theorem head_read (w : World) (B : Nat) (a : Option Addr) (cap : Nat) (l : List By) (h : Strs w B a l) :
    Calls Tryz.prog 9 #[pgv a l.length cap] w fun e w' =>
      e = .returned (.tuple #[.int .i64 (headV l).1, .int .i64 (headV l).2.1, .int .i64 (headV l).2.2.1, .int .i64 (headV l).2.2.2]) ∧ Below w.heap.size w w' := by
  have HP := Lib.hid (page_any w B a cap l 0 h)
  have hpl := pageV_len l 0
  by_cases he : (pageV l 0).2 = 0
  · have HV := Lib.hid (show headV l = hdV (pageV l 0).1 by unfold headV; rw [if_pos he])
    rw [he] at HP
    generalize (pageV l 0).1 = s at HP HV hpl
    clear he
    go_enter Tryz.func9, Tryz.ntmps9
    go_wp2_with fail
    refine HP.out.mono ?_
    rintro e w1 ⟨rfl, rfl⟩
    go_wp2_with fail
    refine (newReader_any s w).mono ?_
    rintro e w2 ⟨rfl, hr2, hb2⟩
    have HS := Lib.hid (show HdSt w w.heap.size w2.heap.size s (w2.alloc (.cells (hdA s 0) 65)) 0 from ⟨hb2.alloc hb2.size _, hr2.below ((Below.refl _ _).alloc (Nat.le_refl _) _), heap_alloc_new _ _⟩)
    have hz2 := hr2.lt
    clear hr2 hb2
    go_wp2_with fail
    go_loopw [10, 22] (fun _ k wr => ∃ j : Nat, j ≤ 3 ∧ k = .int .i64 j ∧ HdSt w w.heap.size w2.heap.size s wr j) (fun _ k _ => 3 - (intOf k).toNat)
    case atStart => exact ⟨0, by omega, rfl, HS.out⟩
    case round =>
      clear HS
      obtain ⟨j, hj, rfl, hS⟩ := hrel
      have hsl := hdS_len s j
      by_cases hlt : j < 3
      · have HC := Lib.hid (count_any wr w.heap.size (hdS s j).1 (hdS s j).2 hS.rd (by omega))
        have hx : (cntR 1099511627776 (hdS s j).1 (hdS s j).2).1 = hdX s j := rfl
        have hs1 : (cntR 1099511627776 (hdS s j).1 (hdS s j).2).2 = hdS s (j + 1) := rfl
        rw [hx, hs1] at HC
        have HA := Lib.hid (hdA_set s j hlt)
        have HSS := Lib.hid hS
        have hal := lt_of_block hS.arr
        generalize hdX s j = x at HC HA
        clear hS hx hs1 hsl
        go_wp2_with fail
        refine HC.out.mono ?_
        rintro e w3 ⟨rfl, hr3, ho3⟩
        have ha3 := ho3.heap HSS.out.arr (by simp; omega)
        have hsz : (hdA s j).size = 3 := rfl
        have c0 : w3.cell? ⟨w2.heap.size, j, none⟩ = some (hdA s j)[j] := by rw [cell_of_row _ _ _ _ _ _ ha3]; exact Array.getElem?_eq_getElem (by rw [hsz]; exact hlt)
        generalize (hdA s j)[j]'(by rw [hsz]; exact hlt) = y at c0
        have f0 := free_at ha3 j
        have HN := Lib.hid (show HdSt w w.heap.size w2.heap.size s (w3.setCell ⟨w2.heap.size, j, none⟩ (.int .i64 x)) (j + 1) from
          ⟨(HSS.out.bel.trans (ho3.below HSS.out.bel.size (by simp))).setCell (p := ⟨w2.heap.size, j, none⟩) (by simp; omega) _,
           ⟨(Below.heap_setCell _ _ _ _ (by simp; omega)).trans hr3.row⟩,
           by rw [← HA.out]; exact cell_row_any _ _ _ _ _ _ _ ha3⟩)
        clear hr3 ho3 ha3 hsz
        go_wp2_with fail
        go_roundw
        case rel => exact ⟨j + 1, by omega, by go_num, HN.out⟩
        case measure => simp [intOf]; omega
      · obtain rfl : j = 3 := by omega
        have HD := Lib.hid (show hdV s = if (hdS s 3).1 = [] ∨ (hdS s 3).1 ≠ zeros (hdS s 3).1.length then (0, 0, 0, 11) else (hdX s 0, hdX s 1, hdX s 2, 0) from rfl)
        have harr := hS.arr
        have x0 := cell_at (i := 0) (v := .int .i64 (hdX s 0 : Nat)) harr rfl
        have x1 := cell_at (i := 1) (v := .int .i64 (hdX s 1 : Nat)) harr rfl
        have x2 := cell_at (i := 2) (v := .int .i64 (hdX s 2 : Nat)) harr rfl
        have hal := lt_of_block harr
        have hrd := hS.rd
        have HB := Lib.hid hS.bel
        generalize hdX s 0 = v0 at HD x0
        generalize hdX s 1 = v1 at HD x1
        generalize hdX s 2 = v2 at HD x2
        generalize (hdS s 3).1 = lf at HD hrd hsl
        generalize (hdS s 3).2 = er at hrd
        have HR := Lib.hid hrd
        clear hS harr hrd
        by_cases hn : lf = []
        · subst hn
          rw [if_pos (Or.inl rfl)] at HD
          go_wp2_with fail
          refine (left_any wr w.heap.size [] er HR.out).mono ?_
          rintro e w4 ⟨rfl, rfl⟩
          go_wp2_with fail
          go_region
          go_wp2_with fail
          refine bodyPost_ret4 rfl rfl rfl rfl rfl rfl ?_
          rw [HV.out, HD.out]
          exact ⟨rfl, by first | exact HB.out | exact below_drewN HB.out 1⟩
        · have hpos : 0 < lf.length := List.length_pos_iff.2 hn
          have e0 : ((lf.length : Int) == 0) = false := by simp; omega
          have hmk := run_zeros lf.length (by omega)
          have hcv1 : (convert 69 9 (.slice (some ⟨wr.heap.size, 0, none⟩) lf.length lf.length)).run Tryz.prog (wr.alloc (.cells (zrow lf.length) 5)).drew = .ok (.string ⟨(zeros lf.length).toArray⟩) (wr.alloc (.cells (zrow lf.length) 5)).drew := by
            have := conv_at (wr.alloc (.cells (zrow lf.length) 5)).drew wr.heap.size lf.length (List.replicate lf.length 0) 5 (0, 0) (heap_alloc_new wr _) (by simp)
            rw [str_zeros] at this; exact this
          have HR1 := Lib.hid (show RdAt wr.drew w.heap.size lf er from ⟨HR.out.row⟩)
          have HR2 := Lib.hid (show RdAt (wr.alloc (.cells (zrow lf.length) 5)).drew w.heap.size lf er from ⟨(halloc _ _ HR.out.lt).trans HR.out.row⟩)
          have hnn : ¬ lf.length = 0 := by omega
          by_cases hz : lf = zeros lf.length
          · have HZ := Lib.hid hz
            rw [if_neg (fun h => h.elim hn (fun h2 => h2 hz))] at HD
            generalize zeros lf.length = zs at hz hcv1
            subst hz
            go_wp2_with fail
            refine (left_any wr w.heap.size lf er HR.out).mono ?_
            rintro e w4 ⟨rfl, rfl⟩
            go_wp2_with fail
            go_region_law (go_simp
                           refine (rest_any _ w.heap.size lf er (by first | exact HR1.out | exact HR2.out)).mono ?_
                           rintro e w5 ⟨rfl, rfl⟩)
            all_goals
              go_wp2_with fail
              go_region
              all_goals
                go_wp2_with fail
                refine bodyPost_ret4 rfl rfl rfl rfl rfl rfl ?_
                rw [HV.out, HD.out]
                exact ⟨rfl, below_drewN (below_drewN (HB.out.alloc HB.out.size _) 1) 1⟩
          · rw [if_pos (Or.inr hz)] at HD
            generalize zeros lf.length = zs at hz hcv1
            have ez : (lf == zs) = false := by simpa using hz
            clear hz
            go_wp2_with fail
            refine (left_any wr w.heap.size lf er HR.out).mono ?_
            rintro e w4 ⟨rfl, rfl⟩
            go_wp2_with fail
            go_region_law (go_simp
                           refine (rest_any _ w.heap.size lf er (by first | exact HR1.out | exact HR2.out)).mono ?_
                           rintro e w5 ⟨rfl, rfl⟩)
            all_goals
              go_wp2_with fail
              all_goals
                refine bodyPost_ret4 rfl rfl rfl rfl rfl rfl ?_
                rw [HV.out, HD.out]
                exact ⟨rfl, below_drewN (HB.out.alloc HB.out.size _) 1⟩
  · have HV := Lib.hid (show headV l = (0, 0, 0, (pageV l 0).2) by unfold headV; rw [if_neg he])
    generalize (pageV l 0).1 = s at HP
    generalize (pageV l 0).2 = er at HP HV he
    have e0 : (er == 0) = false := by simp [he]
    have e1 : (er != 0) = true := by simp [he]
    clear he
    go_enter Tryz.func9, Tryz.ntmps9
    go_wp2_with fail
    refine HP.out.mono ?_
    rintro e w1 ⟨rfl, rfl⟩
    go_wp2_with fail
    refine bodyPost_ret4 rfl rfl rfl rfl rfl rfl ?_
    rw [HV.out]
    exact ⟨rfl, Below.refl _ _⟩

end Go.Proofs.YthkpcalopmddpaaGreatDoor

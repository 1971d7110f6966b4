/-
  Walks: whether two results are equal, by the reference (for two that are); the slot of a reference, by the program and the reference. Conditions: in memory; numbers of 64 bits.
-/
import Derived.Test.YtcidbmldbikknaaGreatDoorG4
import Derived.Test.YtcidbmldbikknaaGreatDoorE14
namespace Go.Proofs.YtcidbmldbikknaaGreatDoor
open Go.RowKit Go.Sort
attribute [local go_sem ↓] loadTab_down loadSc_down storeSc_down loadLab_down storeLab_down loadRef_down

theorem tint {w : World} {B : Nat} {a : Option Addr} (l : List Nat) (h : IntsAt w B a (l.map fun (n : Nat) => (n : Int))) : IntsAt w B a (l.map fun (n : Nat) => (n : Int)) := h
theorem ints_of_nats {w : World} {base : Nat} {e : TypeId} {v : Value} {l : List Nat} (h : w.ownsRow base e 1 v l.length (l.map iv)) : ∃ a cap, v = .slice a l.length cap ∧ IntsAt w w.heap.size a (l.map fun (n : Nat) => (n : Int)) := by
  have h2 : w.ownsRow base e 1 v (l.map fun (n : Nat) => (n : Int)).length ((l.map fun (n : Nat) => (n : Int)).map (Value.int .i64)) := by
    rw [List.length_map, List.map_map]; exact h
  obtain ⟨a, cap, hv, hi⟩ := ints_of_row h2
  rw [List.length_map] at hv
  exact ⟨a, cap, hv, hi⟩

set_option maxRecDepth 100000 in
set_option maxHeartbeats 4000000 in
theorem same15_any (w : World) (f u : Nat) (ta ta2 : Option Addr) (tc tc2 : Nat) (sa sa2 : Option Addr) (sc sc2 : Nat) (te : List Rn) (sh : List Int) (h1 : Runs w w.heap.size ta te) (h2 : Runs w w.heap.size ta2 te) (h3 : IntsAt w w.heap.size sa sh) (h4 : IntsAt w w.heap.size sa2 sh) (hl : te.length ≤ 4000000000) (hm : sh.length ≤ 4000000000) :
    Calls Tryz.prog 9 #[.agg (scV f u (.slice ta te.length tc) (.slice sa sh.length sc)), .agg (scV f u (.slice ta2 te.length tc2) (.slice sa2 sh.length sc2))] w fun e w' => e = .returned (.bool true) ∧ Below w.heap.size w w' := by
  have HB := Lib.hid (two_below w (scV f u (.slice ta te.length tc) (.slice sa sh.length sc)) (scV f u (.slice ta2 te.length tc2) (.slice sa2 sh.length sc2)) 29 29)
  have hg0 := (halloc _ (.cells (scV f u (.slice ta2 te.length tc2) (.slice sa2 sh.length sc2)) 29) (by simp)).trans (heap_alloc_new w (.cells (scV f u (.slice ta te.length tc) (.slice sa sh.length sc)) 29))
  have hg1 := two_new w (scV f u (.slice ta te.length tc) (.slice sa sh.length sc)) (scV f u (.slice ta2 te.length tc2) (.slice sa2 sh.length sc2)) 29 29
  have HSR := Lib.hid (fun W (h : Below w.heap.size w W) => samerefs_any W w.heap.size w.heap.size ta ta2 tc tc2 te (h1.below h) (h2.below h) hl)
  have HSI := Lib.hid (fun W (h : Below w.heap.size w W) => rints_any W w.heap.size w.heap.size sa sa2 sc sc2 sh sh (h3.below h) (h4.below h) hm hm)
  rw [show decide (sh = sh) = true by simp] at HSI
  have HG0 := Lib.hid hg0
  have HG1 := Lib.hid hg1
  obtain ⟨W0, hW0⟩ : ∃ W0, W0 = (w.alloc (.cells (scV f u (.slice ta te.length tc) (.slice sa sh.length sc)) 29)).alloc (.cells (scV f u (.slice ta2 te.length tc2) (.slice sa2 sh.length sc2)) 29) := ⟨_, rfl⟩
  have HW0 := Lib.hid hW0
  rw [← hW0] at HG0 HG1 HB hg0 hg1
  have a4 := cell_at (i := 4) (v := .slice none 0 0) hg0 rfl
  have b4 := cell_at (i := 4) (v := .slice none 0 0) hg1 rfl
  have a0 := cell_at (i := 0) (v := .int .i64 f) hg0 rfl
  have b0 := cell_at (i := 0) (v := .int .i64 f) hg1 rfl
  have a1 := cell_at (i := 1) (v := .int .i64 u) hg0 rfl
  have b1 := cell_at (i := 1) (v := .int .i64 u) hg1 rfl
  have a2 := cell_at (i := 2) (v := .slice ta te.length tc) hg0 rfl
  have b2 := cell_at (i := 2) (v := .slice ta2 te.length tc2) hg1 rfl
  clear hg0 hg1 h1 h2 h3 h4 hW0
  have A4 := Lib.hid a4
  rw [HW0.out] at a4 b4
  go_enter Tryz.func9, Tryz.ntmps9
  go_wp2_with fail
  rw [← HW0.out] at a4 b4 ⊢
  go_loop [5] (fun k => k = .int .i64 0) (fun _ => 0)
  case atStart => rfl
  case round =>
    obtain rfl := hrel
    go_wp2_with fail
    refine (HSR.out _ HB.out).mono ?_
    rintro e w1 ⟨rfl, hb1⟩
    have HB1 := Lib.hid (HB.out.trans (hb1.mono HB.out.size))
    have hg0 := (hb1.block _ (lt_of_block HG0.out)).trans HG0.out
    have hg1 := (hb1.block _ (lt_of_block HG1.out)).trans HG1.out
    have a3 := cell_at (i := 3) (v := .slice sa sh.length sc) hg0 rfl
    have b3 := cell_at (i := 3) (v := .slice sa2 sh.length sc2) hg1 rfl
    clear hb1 hg0 hg1
    go_wp2_with fail
    refine (HSI.out _ HB1.out).mono ?_
    rintro e w2 ⟨rfl, hb2⟩
    have HB2 := Lib.hid (HB1.out.trans (hb2.mono HB1.out.size))
    clear hb2
    go_wp2_with fail
    go_ret
    exact ⟨rfl, HB2.out⟩

/-- Whether a label has a reference. -/
def matchR (r : Rn) (x : Lab) : Bool := decide (r.1 ≠ 0) && (decide (x.id = r.1) && decide (x.unit = r.2))
def slotP (r : Rn) : List Lab → Nat → Option Nat
  | [], _ => none
  | x :: l, n => if matchR r x = true then some n else slotP r l (n + 1)
def slotV : Option Nat → Value
  | some n => .int .i64 n
  | none => .int .i64 (-1)
def extP (l : List Lab) (r : Rn) : List Rn := match slotP r l 0 with
  | some i => match l[i]? with
    | some x => x.ext
    | none => []
  | none => []
theorem slotP_lt (r : Rn) : ∀ (l : List Lab) (n i : Nat), slotP r l n = some i → n ≤ i ∧ i < n + l.length
  | [], n, i, h => by cases h
  | x :: l, n, i, h => by
    unfold slotP at h
    split at h
    · cases h; simp
    · have := slotP_lt r l (n + 1) i h
      simp; omega

set_option maxRecDepth 100000 in
set_option maxHeartbeats 4000000 in
theorem rslot_any (w : World) (B : Nat) (a : Option Addr) (cap : Nat) (nm : By) (tr : Int) (l : List Lab) (r1 r2 : Int) (h : Labs w B a l) (hB : B ≤ w.heap.size) (hl : l.length ≤ 1000) :
    Calls Tryz.prog 62 #[.agg (tabC nm tr a l.length cap), .agg #[.int .i64 r1, .int .i64 r2]] w fun e w' => e = .returned (slotV (slotP (r1, r2) l 0)) ∧ Below w.heap.size w w' := by
  have HT0 := Lib.hid (show slotP (r1, r2) l 0 = slotP (r1, r2) (l.drop 0) 0 from rfl)
  generalize slotP (r1, r2) l 0 = T at HT0 ⊢
  have HL := Lib.hid h
  obtain ⟨W0, hW0⟩ : ∃ W0, W0 = (w.alloc (.cells (tabC nm tr a l.length cap) 24)).alloc (.cells #[.int .i64 r1, .int .i64 r2] 40) := ⟨_, rfl⟩
  have hb0 : Below w.heap.size w W0 := by rw [hW0]; exact two_below w _ _ _ _
  have hd0 : W0.heap[w.heap.size]? = some (.cells (tabC nm tr a l.length cap) 24 (0, 0)) := by rw [hW0, halloc _ _ (by simp)]; exact heap_alloc_new w _
  have hr0 : W0.heap[w.heap.size + 1]? = some (.cells #[.int .i64 r1, .int .i64 r2] 40 (0, 0)) := by rw [hW0]; exact two_new w _ _ _ _
  have HB0 := Lib.hid hb0
  have HD0 := Lib.hid hd0
  have HR0 := Lib.hid hr0
  have HW0 := Lib.hid hW0
  clear h hb0 hd0 hr0 hW0
  go_enter Tryz.func62, Tryz.ntmps62
  go_wp2_with fail
  rw [← HW0.out]
  go_loopw [5] (fun k wr => ∃ j : Nat, j ≤ l.length ∧ k = .int .i64 j ∧ T = slotP (r1, r2) (l.drop j) j ∧ Below W0.heap.size W0 wr) (fun k _ => l.length - (intOf k).toNat)
  case atStart => exact ⟨0, by omega, rfl, HT0.out, Below.refl _ _⟩
  case round =>
    clear HT0
    obtain ⟨j, hj, rfl, hT, hb⟩ := hrel
    have HB := Lib.hid hb
    have hd := (hb.block w.heap.size (lt_of_block HD0.out)).trans HD0.out
    have hr := (hb.block (w.heap.size + 1) (lt_of_block HR0.out)).trans HR0.out
    have t2 := cell_at (i := 2) (v := .slice a l.length cap) hd rfl
    have q0 := cell_at (i := 0) (v := .int .i64 r1) hr rfl
    have q1 := cell_at (i := 1) (v := .int .i64 r2) hr rfl
    have HBF := Lib.hid (HB0.out.trans (hb.mono HB0.out.size))
    clear hb hd hr
    by_cases hlt : j < l.length
    · have hltI : (j : Int) < (l.length : Int) := by omega
      obtain ⟨b, off, rfl, hbb, hLA⟩ := HL.out.get hlt
      have hla := hLA.below (HBF.out.mono hB) hbb
      rw [List.drop_eq_getElem_cons hlt, slotP] at hT
      clear hLA
      generalize l[j] = x at hT hla
      have y0 := hla.c0
      have y1 := hla.c1
      clear hla
      generalize hxi : x.id = xi at y0
      generalize hxu : x.unit = xu at y1
      by_cases h1 : r1 = 0
      · have HN := Lib.hid (show T = slotP (r1, r2) (l.drop (j + 1)) (j + 1) by rw [hT, if_neg (by simp [matchR, h1])])
        have e1 : (r1 != 0) = false := by simp [h1]
        clear hT hxi hxu
        go_wp2_with fail
        go_region
        go_wp2_with fail
        go_roundw
        case rel => exact ⟨j + 1, by omega, by go_num, HN.out, below_drewN HB.out 1⟩
        case measure => simp [intOf]; omega
      · have e1 : (r1 != 0) = true := by simp [h1]
        by_cases h2 : xi = r1
        · have e2 : (xi == r1) = true := by simp [h2]
          by_cases h3 : xu = r2
          · have e3 : (xu == r2) = true := by simp [h3]
            have HN := Lib.hid (show T = some j by rw [hT, if_pos (by simp [matchR, h1, hxi, hxu, h2, h3])])
            clear hT hxi hxu h1 h2 h3
            go_wp2_with fail
            go_region
            go_wp2_with fail
            go_ret
            rw [HN.out]
            exact ⟨rfl, below_drewN HBF.out 1⟩
          · have e3 : (xu == r2) = false := by simp [h3]
            have HN := Lib.hid (show T = slotP (r1, r2) (l.drop (j + 1)) (j + 1) by rw [hT, if_neg (by simp [matchR, hxu, h3])])
            clear hT hxi hxu h1 h2 h3
            go_wp2_with fail
            go_region
            go_wp2_with fail
            go_roundw
            case rel => exact ⟨j + 1, by omega, by go_num, HN.out, below_drewN HB.out 1⟩
            case measure => simp [intOf]; omega
        · have e2 : (xi == r1) = false := by simp [h2]
          have HN := Lib.hid (show T = slotP (r1, r2) (l.drop (j + 1)) (j + 1) by rw [hT, if_neg (by simp [matchR, hxi, h2])])
          clear hT hxi hxu h1 h2
          go_wp2_with fail
          go_region
          go_wp2_with fail
          go_roundw
          case rel => exact ⟨j + 1, by omega, by go_num, HN.out, below_drewN HB.out 1⟩
          case measure => simp [intOf]; omega
    · have hltI : ¬ (j : Int) < (l.length : Int) := by omega
      have HQ := Lib.hid (show T = none by rw [hT, List.drop_eq_nil_of_le (by omega)]; rfl)
      clear hT
      go_wp2_with fail
      go_ret
      rw [HQ.out]
      exact ⟨rfl, HBF.out⟩

end Go.Proofs.YtcidbmldbikknaaGreatDoor

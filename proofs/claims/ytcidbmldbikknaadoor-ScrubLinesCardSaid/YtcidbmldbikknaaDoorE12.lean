/-
  Walks: Owner of the reference's chapter; whether a table is small. Conditions: a table in memory; numbers of 64 bits.
-/
import Derived.Test.YtcidbmldbikknaaDoorE11
namespace Go.Proofs.YtcidbmldbikknaaDoor
open Go.RowKit Go.Sort
attribute [local go_sem ↓] loadRn_down storeRn_down loadLab_down storeLab_down loadTab_down storeRef_down

def ownV : Option (Int × Int × Int) → Int × Int × Int × Bool
  | some x => (x.1, x.2.1, x.2.2, true)
  | none => (0, 0, 0, false)
theorem ownerR_V (o : Option (Int × Int × Int)) : ownerR o = .tuple #[.agg #[.int .i64 (ownV o).1, .int .i64 (ownV o).2.1], .int .i64 (ownV o).2.2.1, .bool (ownV o).2.2.2] := by cases o <;> rfl

set_option maxRecDepth 100000 in
set_option maxHeartbeats 1000000 in
theorem r15owner_any (w : World) (B : Nat) (a : Option Addr) (cap : Nat) (nm : By) (tr : Int) (l : List Lab) (s : Int) (h : Labs w B a l) (hB : B ≤ w.heap.size) (hl : l.length ≤ 1000000) (he : ∀ x ∈ l, x.ext.length ≤ 100000) (hs : okI s) :
    Calls Tryd.prog 12 #[.agg (tabC nm tr a l.length cap), .int .i64 s] w fun e w' => e = .returned (ownerR (ownerP l s)) ∧ Below w.heap.size w w' := by
  have hg0 := (halloc _ (.cells #[.int .i64 0, .int .i64 0] 37) (by simp)).trans (heap_alloc_new w (.cells (tabC nm tr a l.length cap) 34))
  have HG1 := Lib.hid (two_new w (tabC nm tr a l.length cap) #[.int .i64 0, .int .i64 0] 34 37)
  have HB0 := Lib.hid (two_below w (tabC nm tr a l.length cap) #[.int .i64 0, .int .i64 0] 34 37)
  have hc := fun W h1 h2 => rowner_any W B a cap nm tr l s h1 h2 hl he hs
  have HL := Lib.hid h
  rw [ownerR_V] at hc ⊢
  generalize ownV (ownerP l s) = o at hc ⊢
  obtain ⟨x, y, z, q⟩ := o
  have HC := Lib.hid hc
  have dl := loadTab_at hg0 rfl
  clear hc hg0 h
  go_enter Tryd.func12, Tryd.ntmps12
  go_wp2_with fail
  refine (HC.out _ (HL.out.below (HB0.out.mono hB)) (Nat.le_trans hB HB0.out.size)).mono ?_
  rintro e w1 ⟨rfl, hb1⟩
  have hg2 := (hb1.block (w.heap.size + 1) (lt_of_block HG1.out)).trans HG1.out
  have HB1 := Lib.hid (HB0.out.trans (hb1.mono HB0.out.size))
  have st := storeRef_at (cs := #[.int .i64 x, .int .i64 y]) hg2 rfl rfl (by simp [Value.oneCell'])
  have HG := Lib.hid (setRow_heap _ _ _ #[.int .i64 x, .int .i64 y] _ _ hg2)
  clear hb1 hg2 dl
  go_wp2_with fail
  refine ret_own (cs := #[.int .i64 x, .int .i64 y]) rfl rfl rfl rfl rfl rfl HG.out ?_
  exact ⟨rfl, Below.setRow HB1.out (by omega) _⟩

def fewLab (x : Lab) : Bool := decide (x.name.length ≤ 100) && decide (x.note.length ≤ 500) && decide (x.ext.length ≤ 30)
set_option maxRecDepth 100000 in
set_option maxHeartbeats 1000000 in
theorem few7_any (x : Lab) (ea : Option Addr) (ec : Nat) (w : World) (hn1 : x.name.length ≤ 9223372036854775807) (hn2 : x.note.length ≤ 9223372036854775807) (hn3 : x.ext.length ≤ 9223372036854775807) :
    Calls Tryd.prog 23 #[.agg #[.int .i64 x.id, .int .i64 x.unit, sv x.name, sv x.note, .slice ea x.ext.length ec]] w fun e w' => e = .returned (.bool (fewLab x)) ∧ Below w.heap.size w w' := by
  obtain ⟨xi, xu, n1, n2, ext⟩ := x
  simp only at hn1 hn2 hn3 ⊢
  have hz := heap_alloc_new w (.cells #[.int .i64 xi, .int .i64 xu, sv n1, sv n2, .slice ea ext.length ec] 55)
  have HB := Lib.hid (box_below w #[.int .i64 xi, .int .i64 xu, sv n1, sv n2, .slice ea ext.length ec] 55)
  have c2 := cell_at (i := 2) (v := .string ⟨n1.toArray⟩) hz rfl
  have c3 := cell_at (i := 3) (v := .string ⟨n2.toArray⟩) hz rfl
  have c4 := cell_at (i := 4) (v := .slice ea ext.length ec) hz rfl
  have hF : fewLab ⟨xi, xu, n1, n2, ext⟩ = (decide (n1.length ≤ 100) && decide (n2.length ≤ 500) && decide (ext.length ≤ 30)) := rfl
  generalize fewLab ⟨xi, xu, n1, n2, ext⟩ = q at hF ⊢
  clear hz
  by_cases h1 : n1.length ≤ 100
  · by_cases h2 : n2.length ≤ 500
    · by_cases h3 : ext.length ≤ 30
      · have HF := Lib.hid (show q = true by rw [hF]; simp [h1, h2, h3])
        have k1 : (n1.length : Int) ≤ 100 := by omega
        have k2 : (n2.length : Int) ≤ 500 := by omega
        have k3 : (ext.length : Int) ≤ 30 := by omega
        clear hF
        go_enter Tryd.func23, Tryd.ntmps23
        go_wp2_with fail
        go_ret
        exact ⟨by rw [HF.out]; rfl, HB.out⟩
      · have HF := Lib.hid (show q = false by rw [hF]; simp [h3])
        have k1 : (n1.length : Int) ≤ 100 := by omega
        have k2 : (n2.length : Int) ≤ 500 := by omega
        have k3 : ¬ (ext.length : Int) ≤ 30 := by omega
        clear hF
        go_enter Tryd.func23, Tryd.ntmps23
        go_wp2_with fail
        go_ret
        exact ⟨by rw [HF.out]; rfl, HB.out⟩
    · have HF := Lib.hid (show q = false by rw [hF]; simp [h2])
      have k1 : (n1.length : Int) ≤ 100 := by omega
      have k2 : ¬ (n2.length : Int) ≤ 500 := by omega
      clear hF
      go_enter Tryd.func23, Tryd.ntmps23
      go_wp2_with fail
      go_ret
      exact ⟨by rw [HF.out]; rfl, HB.out⟩
  · have HF := Lib.hid (show q = false by rw [hF]; simp [h1])
    have k1 : ¬ (n1.length : Int) ≤ 100 := by omega
    clear hF
    go_enter Tryd.func23, Tryd.ntmps23
    go_wp2_with fail
    go_ret
    exact ⟨by rw [HF.out]; rfl, HB.out⟩

end Go.Proofs.YtcidbmldbikknaaDoor

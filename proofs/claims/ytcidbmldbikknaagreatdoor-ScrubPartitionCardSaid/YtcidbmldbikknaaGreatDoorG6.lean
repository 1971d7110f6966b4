/-
  Walks: the label of a reference, by the program and the reference. Conditions: a table in memory; numbers of 64 bits.
-/
import Derived.Test.YtcidbmldbikknaaGreatDoorG5
import Derived.Test.YtcidbmldbikknaaGreatDoorF10
namespace Go.Proofs.YtcidbmldbikknaaGreatDoor
open Go.RowKit Go.Sort
attribute [local go_sem ↓] loadTab_down loadLab_down storeLab_down loadRef_down

theorem ret_lab2 {fn : Func} {R : Ending → World → Prop} {a : Act} {w : World} {p u : Tmp} {rb : Nat} {cs : Array Value} {x : Value} (hf : fn.results = #[.cell p 43, .tmp u]) (hp : a.tmps.getD p undef = .pointer (some ⟨rb, 0, none⟩)) (hu : a.tmps.getD u undef = x) (hd : a.defers = [])
    (hi : cs.size = 5) (hg : w.heap[rb]? = some (.cells cs 43 (0, 0))) (hR : R (.returned (.tuple #[.agg cs, x])) w) : bodyPost Tryz.prog fn R .ret a w := by
  have hp' : a.tmps[p]?.getD undef = .pointer (some ⟨rb, 0, none⟩) := by simpa using hp
  have hu' : a.tmps[u]?.getD undef = x := by simpa using hu
  refine bodyPost_ret ?_ hd hR
  simp [results, hf, hp', hu', asAddr, run_loadVar_row w rb 43 43 cs (0, 0) _ hg Tryz.underlying43 rfl (by rw [info_lab, hi])]

/-- What a search for a label gives: its extents are those of the slot. -/
def Found (l : List Lab) (r : Rn) (e : Ending) (w' : World) : Prop :=
  ∃ (v0 v1 v2 v3 : Value) (ea : Option Addr) (ec : Nat) (q : Bool), e = .returned (.tuple #[.agg #[v0, v1, v2, v3, .slice ea (extP l r).length ec], .bool q]) ∧ (#[v0, v1, v2, v3] : Array Value).all (·.oneCell') = true ∧ Runs w' w'.heap.size ea (extP l r)

/-- The same, its extents below B. -/
def FoundB (l : List Lab) (r : Rn) (B : Nat) (e : Ending) (w' : World) : Prop :=
  ∃ (v0 v1 v2 v3 : Value) (ea : Option Addr) (ec : Nat) (q : Bool), e = .returned (.tuple #[.agg #[v0, v1, v2, v3, .slice ea (extP l r).length ec], .bool q]) ∧ (#[v0, v1, v2, v3] : Array Value).all (·.oneCell') = true ∧ Runs w' B ea (extP l r)

set_option maxRecDepth 100000 in
set_option maxHeartbeats 4000000 in
theorem rfind_any (w : World) (B : Nat) (a : Option Addr) (cap : Nat) (nm : By) (tr : Int) (l : List Lab) (r1 r2 : Int) (h : Labs w B a l) (hB : B ≤ w.heap.size) (hl : l.length ≤ 1000) :
    Calls Tryz.prog 37 #[.agg (tabC nm tr a l.length cap), .agg #[.int .i64 r1, .int .i64 r2]] w fun e w' => FoundB l (r1, r2) B e w' ∧ Below w.heap.size w w' := by
  have HSL := Lib.hid (fun W h1 h2 => rslot_any W B a cap nm tr l r1 r2 h1 h2 hl)
  have hlt := fun i h => slotP_lt (r1, r2) l 0 i h
  have HX := Lib.hid (show extP l (r1, r2) = match slotP (r1, r2) l 0 with
    | some i => match l[i]? with
      | some x => x.ext
      | none => []
    | none => [] from rfl)
  unfold FoundB
  generalize extP l (r1, r2) = X at HX ⊢
  generalize slotP (r1, r2) l 0 = T at HSL hlt HX
  have HL := Lib.hid h
  obtain ⟨W0, hW0⟩ : ∃ W0, W0 = ((w.alloc (.cells (tabC nm tr a l.length cap) 24)).alloc (.cells #[.int .i64 r1, .int .i64 r2] 40)).alloc (.cells zeroV 43) := ⟨_, rfl⟩
  have hb0 : Below w.heap.size w W0 := by rw [hW0]; exact (((Below.refl _ _).alloc (by simp) _).alloc (by simp) _).alloc (by simp; omega) _
  have hd0 : W0.heap[w.heap.size]? = some (.cells (tabC nm tr a l.length cap) 24 (0, 0)) := by
    rw [hW0]
    exact (halloc _ _ (by simp; omega)).trans ((halloc _ _ (by simp)).trans (heap_alloc_new _ _))
  have hr0 : W0.heap[w.heap.size + 1]? = some (.cells #[.int .i64 r1, .int .i64 r2] 40 (0, 0)) := by
    rw [hW0]
    exact (halloc _ _ (by simp)).trans (two_new _ _ _ _ _)
  have hz0 : W0.heap[w.heap.size + 1 + 1]? = some (.cells zeroV 43 (0, 0)) := by
    rw [hW0]
    have := heap_alloc_new ((w.alloc (.cells (tabC nm tr a l.length cap) 24)).alloc (.cells #[.int .i64 r1, .int .i64 r2] 40)) (.cells zeroV 43)
    have e : ((w.alloc (.cells (tabC nm tr a l.length cap) 24)).alloc (.cells #[.int .i64 r1, .int .i64 r2] 40)).heap.size = w.heap.size + 1 + 1 := by simp
    rw [e] at this; exact this
  have HB0 := Lib.hid hb0
  have HD0 := Lib.hid hd0
  have HZ0 := Lib.hid hz0
  have dl := loadTab_at hd0 rfl
  have dr := loadRef_at hr0 rfl
  have HW0 := Lib.hid hW0
  rw [hW0] at dl dr
  clear h hb0 hd0 hr0 hz0 hW0
  go_enter Tryz.func37, Tryz.ntmps37
  go_wp2_with fail
  rw [← HW0.out]
  refine (HSL.out _ (HL.out.below (HB0.out.mono hB)) (Nat.le_trans hB HB0.out.size)).mono ?_
  rintro e w1 ⟨rfl, hb1⟩
  have HB1 := Lib.hid (HB0.out.trans (hb1.mono HB0.out.size))
  have hd1 := (hb1.block _ (lt_of_block HD0.out)).trans HD0.out
  have hz1 := (hb1.block _ (lt_of_block HZ0.out)).trans HZ0.out
  have t2 := cell_at (i := 2) (v := .slice a l.length cap) hd1 rfl
  have HZ1 := Lib.hid hz1
  clear hb1 hd1 hz1 dl dr
  cases T with
  | none =>
    have HXN := Lib.hid (show X = [] from HX.out)
    have st := storeLab_at (cs := zeroV) HZ1.out rfl rfl (by simp [Value.oneCell'])
    have HG := Lib.hid (setRow_heap _ _ _ zeroV _ _ HZ1.out)
    simp only [zeroV] at st
    clear hlt HX
    simp only [slotV]
    go_wp2_with fail
    refine ret_lab2 (cs := zeroV) rfl rfl rfl rfl rfl HG.out ?_
    rw [HXN.out]
    exact ⟨⟨_, _, _, _, none, 0, false, rfl, by simp [Value.oneCell'], runs_nil _ _ _⟩, Below.setRow HB1.out (by omega) _⟩
  | some i =>
    obtain ⟨_, hi⟩ := hlt i rfl
    have hi : i < l.length := by omega
    obtain ⟨b, off, rfl, hbb, hLA⟩ := HL.out.get hi
    have hla := hLA.below (HB1.out.mono hB) hbb
    have HXX := Lib.hid (show X = l[i].ext by rw [HX.out]; simp only; rw [List.getElem?_eq_getElem hi])
    clear hLA hlt HX
    generalize l[i] = x at HXX hla
    obtain ⟨ea, ec, h4, hR⟩ := hla.c4
    have dl0 := loadLab_mid hla.c0 hla.c1 hla.c2 hla.c3 h4
    have st := storeLab_at (cs := labV x ea ec) HZ1.out rfl rfl (by simp [Value.oneCell', sv])
    have HG := Lib.hid (setRow_heap _ _ _ (labV x ea ec) _ _ HZ1.out)
    have HBF := Lib.hid (Below.setRow HB1.out (show w.heap.size ≤ w.heap.size + 1 + 1 by omega) (labV x ea ec))
    have HRF := Lib.hid (hR.below (Below.setRow (Below.refl B w1) (show B ≤ w.heap.size + 1 + 1 by omega) (labV x ea ec)))
    have hiI : (i : Int) < (l.length : Int) := by omega
    have hi0 : (0 : Int) ≤ (i : Int) := by omega
    simp only [labV] at dl0 st
    simp only [slotV]
    clear hla h4 hR
    go_wp2_with fail
    refine ret_lab2 (cs := labV x ea ec) rfl rfl rfl rfl rfl HG.out ?_
    rw [HXX.out]
    exact ⟨⟨_, _, _, _, ea, ec, true, rfl, by simp [Value.oneCell', sv], HRF.out⟩, HBF.out⟩

end Go.Proofs.YtcidbmldbikknaaGreatDoor

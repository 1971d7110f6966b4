/-
  Walks: a run clipped, by the program and the reference. Condition: numbers of 64 bits.
-/
import Derived.Test.YtcidbmldbikknaaGreatDoorCom
import Derived.Test.YtcidbmldbikknaaGreatDoorE1
namespace Go.Proofs.YtcidbmldbikknaaGreatDoor
open Go.RowKit Go.Sort

theorem info_rn : (Tryz.prog.info? 68).map (·.size) = some 2 := by kernel_rfl
/-- A run, loaded and stored whole. -/
def loadRn (p : Addr) : Sem Value := loadVar 68 p
theorem loadRn_down (p : Addr) : loadVar 68 p = loadRn p := rfl
theorem loadRn_at {w : World} {g : Nat} {cs : Array Value} {t : TypeId} {fr : Nat × Nat} (hg : w.heap[g]? = some (.cells cs t fr)) (hi : cs.size = 2) : (loadRn ⟨g, 0, none⟩).run Tryz.prog w = .ok (.agg cs) w :=
  run_loadVar_row (P := Tryz.prog) w g t 68 cs fr _ hg Tryz.underlying68 rfl (by rw [info_rn, hi])
def storeRn (p : Addr) (v : Value) : Sem Unit := storeVar 68 p v
theorem storeRn_down (p : Addr) (v : Value) : storeVar 68 p v = storeRn p v := rfl
theorem storeRn_at {w : World} {g : Nat} {cs : Array Value} {t : TypeId} {old : Array Value} (hg : w.heap[g]? = some (.cells old t (0, 0))) (hi : cs.size = 2) (ho : old.size = cs.size) (h1 : cs.all (·.oneCell') = true) : (storeRn ⟨g, 0, none⟩ (.agg cs)).run Tryz.prog w = .ok () (w.setRow g cs) :=
  run_storeVar_row (P := Tryz.prog) w g t 68 old cs hg (by rw [info_rn, hi]) ho h1
def rnC (a b : Int) : Array Value := #[.int .i64 a, .int .i64 b]
theorem rnC_one (a b : Int) : (rnC a b).all (·.oneCell') = true := by simp [rnC, Value.oneCell']
theorem ret_rn {fn : Func} {R : Ending → World → Prop} {a : Act} {w : World} {p : Tmp} {rb : Nat} {cs : Array Value} (hf : fn.results = #[.cell p 68]) (hp : a.tmps.getD p undef = .pointer (some ⟨rb, 0, none⟩)) (hd : a.defers = [])
    (hi : cs.size = 2) (hg : w.heap[rb]? = some (.cells cs 68 (0, 0))) (hR : R (.returned (.agg cs)) w) : bodyPost Tryz.prog fn R .ret a w :=
  bodyPost_ret (results_cell_row hf _ _ rb 68 _ (0, 0) _ hp hg Tryz.underlying68 rfl (by rw [info_rn, hi])) hd hR
attribute [local go_sem ↓] loadRn_down storeRn_down

set_option maxRecDepth 100000 in
set_option maxHeartbeats 2000000 in
theorem clip_any (r : Rn) (hr : okRn r) (w : World) :
    Calls Tryz.prog 50 #[.agg #[.int .i64 r.1, .int .i64 r.2]] w fun e w' => e = .returned (.agg (rnC (clipP r).1 (clipP r).2)) ∧ Below w.heap.size w w' := by
  obtain ⟨a, b⟩ := r
  obtain ⟨⟨a1, a2⟩, b1, b2⟩ := hr
  simp only at a1 a2 b1 b2
  have HZ := Lib.hid (two_new w #[.int .i64 a, .int .i64 b] #[.int .i64 0, .int .i64 0] 68 68)
  have hz0 := (halloc _ (.cells #[.int .i64 0, .int .i64 0] 68) (by simp)).trans (heap_alloc_new w (.cells #[.int .i64 a, .int .i64 b] 68))
  have HB := Lib.hid (two_below w #[.int .i64 a, .int .i64 b] #[.int .i64 0, .int .i64 0] 68 68)
  have c0 := cell_at (i := 0) (v := .int .i64 a) hz0 rfl
  have c1 := cell_at (i := 1) (v := .int .i64 b) hz0 rfl
  have hfin : ∀ (x y : Int), clipP (a, b) = (x.toNat, y.toNat) → 0 ≤ x → 0 ≤ y → rnC (clipP (a, b)).1 (clipP (a, b)).2 = rnC x y := by
    intro x y h hx hy; rw [h]; simp only; rw [Int.toNat_of_nonneg hx, Int.toNat_of_nonneg hy]
  have hc := show clipP (a, b) = if b < 1 ∨ 128 ≤ a ∨ hiP (a, b) ≤ loP (a, b) then (0, 0) else ((loP (a, b)).toNat, (hiP (a, b) - loP (a, b)).toNat) from rfl
  have hl : loP (a, b) = max 0 a := rfl
  have hh : hiP (a, b) = if a < 0 ∨ b < 128 - a then min 128 (a + b) else 128 := rfl
  clear hz0
  by_cases h1 : b < 1
  · have HF := Lib.hid (hfin 0 0 (by rw [hc, if_pos (Or.inl h1)]; rfl) (by omega) (by omega))
    have st := storeRn_at (cs := #[.int .i64 0, .int .i64 0]) HZ.out rfl rfl (rnC_one _ _)
    have HG := Lib.hid (setRow_heap _ _ _ #[.int .i64 0, .int .i64 0] _ _ HZ.out)
    clear hfin hc hl hh
    go_enter Tryz.func50, Tryz.ntmps50
    go_wp2_with fail
    refine ret_rn (cs := #[.int .i64 0, .int .i64 0]) rfl rfl rfl rfl HG.out ?_
    exact ⟨by rw [HF.out]; rfl, Below.setRow HB.out (by omega) _⟩
  · by_cases h2 : 128 ≤ a
    · have HF := Lib.hid (hfin 0 0 (by rw [hc, if_pos (Or.inr (Or.inl h2))]; rfl) (by omega) (by omega))
      have st := storeRn_at (cs := #[.int .i64 0, .int .i64 0]) HZ.out rfl rfl (rnC_one _ _)
      have HG := Lib.hid (setRow_heap _ _ _ #[.int .i64 0, .int .i64 0] _ _ HZ.out)
      clear hfin hc hl hh
      go_enter Tryz.func50, Tryz.ntmps50
      go_wp2_with fail
      refine ret_rn (cs := #[.int .i64 0, .int .i64 0]) rfl rfl rfl rfl HG.out ?_
      exact ⟨by rw [HF.out]; rfl, Below.setRow HB.out (by omega) _⟩
    · have h3 : a < 128 := by omega
      by_cases h4 : hiP (a, b) ≤ loP (a, b)
      · have h5 : a < 0 := by
          rw [hl, hh] at h4
          by_cases h0 : a < 0
          · exact h0
          · exfalso
            split at h4 <;> omega
        have h6 : a + b ≤ 0 := by
          rw [hl, hh, if_pos (Or.inl h5)] at h4; omega
        have HF := Lib.hid (hfin 0 0 (by rw [hc, if_pos (Or.inr (Or.inr h4))]; rfl) (by omega) (by omega))
        have st := storeRn_at (cs := #[.int .i64 0, .int .i64 0]) HZ.out rfl rfl (rnC_one _ _)
        have HG := Lib.hid (setRow_heap _ _ _ #[.int .i64 0, .int .i64 0] _ _ HZ.out)
        have n1 : min 128 (a + b) = a + b := by omega
        have n2 : max 0 a = 0 := by omega
        clear hfin hc hl hh h4
        go_enter Tryz.func50, Tryz.ntmps50
        go_wp2_with fail
        refine ret_rn (cs := #[.int .i64 0, .int .i64 0]) rfl rfl rfl rfl HG.out ?_
        exact ⟨by rw [HF.out]; rfl, Below.setRow HB.out (by omega) _⟩
      · rw [hl, hh] at hc h4
        clear hl hh
        by_cases h5 : a < 0
        · rw [if_pos (Or.inl h5)] at hc h4
          by_cases h7 : 128 ≤ a + b
          · have e7 : min 128 (a + b) = 128 := by omega
            have e8 : max 0 a = 0 := by omega
            rw [e7, e8] at hc h4
            have HF := Lib.hid (hfin (0) (128) (by rw [hc, if_neg (by omega)] <;> first | rfl | (congr 2; done) | (congr 2; omega)) (by omega) (by omega))
            have st := storeRn_at (cs := #[.int .i64 (0), .int .i64 (128)]) HZ.out rfl rfl (rnC_one _ _)
            have HG := Lib.hid (setRow_heap _ _ _ #[.int .i64 (0), .int .i64 (128)] _ _ HZ.out)
            clear hfin hc
            go_enter Tryz.func50, Tryz.ntmps50
            go_wp2_with fail
            refine ret_rn (cs := #[.int .i64 (0), .int .i64 (128)]) rfl rfl rfl rfl HG.out ?_
            exact ⟨by rw [HF.out]; rfl, Below.setRow HB.out (by omega) _⟩
          · have e7 : min 128 (a + b) = a + b := by omega
            have e8 : max 0 a = 0 := by omega
            rw [e7, e8] at hc h4
            have h8 : ¬ a + b ≤ 0 := by omega
            have HF := Lib.hid (hfin (0) (a + b) (by rw [hc, if_neg (by omega)] <;> first | rfl | (congr 2; done) | (congr 2; omega)) (by omega) (by omega))
            have st := storeRn_at (cs := #[.int .i64 (0), .int .i64 (a + b)]) HZ.out rfl rfl (rnC_one _ _)
            have HG := Lib.hid (setRow_heap _ _ _ #[.int .i64 (0), .int .i64 (a + b)] _ _ HZ.out)
            clear hfin hc
            go_enter Tryz.func50, Tryz.ntmps50
            go_wp2_with fail
            refine ret_rn (cs := #[.int .i64 (0), .int .i64 (a + b)]) rfl rfl rfl rfl HG.out ?_
            exact ⟨by rw [HF.out]; rfl, Below.setRow HB.out (by omega) _⟩
        · by_cases h10 : a = 0
          · subst h10
            have e8 : max (0 : Int) 0 = 0 := by omega
            by_cases h6 : b < 128
            · rw [if_pos (show (0 : Int) < 0 ∨ b < 128 - 0 from Or.inr (by omega)), e8, show min (128 : Int) (0 + b) = b by omega] at hc h4
              have h11 : ¬ b ≤ 0 := by omega
              have h12 : ¬ 128 ≤ b := by omega
              have HF := Lib.hid (hfin (0) (b) (by rw [hc, if_neg (by omega)] <;> first | rfl | (congr 2; done) | (congr 2; omega)) (by omega) (by omega))
              have st := storeRn_at (cs := #[.int .i64 (0), .int .i64 (b)]) HZ.out rfl rfl (rnC_one _ _)
              have HG := Lib.hid (setRow_heap _ _ _ #[.int .i64 (0), .int .i64 (b)] _ _ HZ.out)
              clear hfin hc
              go_enter Tryz.func50, Tryz.ntmps50
              go_wp2_with fail
              refine ret_rn (cs := #[.int .i64 (0), .int .i64 (b)]) rfl rfl rfl rfl HG.out ?_
              exact ⟨by rw [HF.out]; rfl, Below.setRow HB.out (by omega) _⟩
            · rw [if_neg (show ¬ ((0 : Int) < 0 ∨ b < 128 - 0) by omega), e8] at hc h4
              have HF := Lib.hid (hfin (0) (128) (by rw [hc, if_neg (by omega)] <;> first | rfl | (congr 2; done) | (congr 2; omega)) (by omega) (by omega))
              have st := storeRn_at (cs := #[.int .i64 (0), .int .i64 (128)]) HZ.out rfl rfl (rnC_one _ _)
              have HG := Lib.hid (setRow_heap _ _ _ #[.int .i64 (0), .int .i64 (128)] _ _ HZ.out)
              clear hfin hc
              go_enter Tryz.func50, Tryz.ntmps50
              go_wp2_with fail
              refine ret_rn (cs := #[.int .i64 (0), .int .i64 (128)]) rfl rfl rfl rfl HG.out ?_
              exact ⟨by rw [HF.out]; rfl, Below.setRow HB.out (by omega) _⟩
          · have h9 : 0 < a := by omega
            have h9' : ¬ a ≤ 0 := by omega
            have e8 : max 0 a = a := by omega
            by_cases h6 : b < 128 - a
            · rw [if_pos (Or.inr h6)] at hc h4
              have e7 : min 128 (a + b) = a + b := by omega
              rw [e7, e8] at hc h4
              have h8 : ¬ a + b ≤ a := by omega
              have h12 : ¬ 128 ≤ a + b := by omega
              have HF := Lib.hid (hfin (a) (a + b - a) (by rw [hc, if_neg (by omega)] <;> first | rfl | (congr 2; done) | (congr 2; omega)) (by omega) (by omega))
              have st := storeRn_at (cs := #[.int .i64 (a), .int .i64 (a + b - a)]) HZ.out rfl rfl (rnC_one _ _)
              have HG := Lib.hid (setRow_heap _ _ _ #[.int .i64 (a), .int .i64 (a + b - a)] _ _ HZ.out)
              clear hfin hc
              go_enter Tryz.func50, Tryz.ntmps50
              go_wp2_with fail
              refine ret_rn (cs := #[.int .i64 (a), .int .i64 (a + b - a)]) rfl rfl rfl rfl HG.out ?_
              exact ⟨by rw [HF.out]; rfl, Below.setRow HB.out (by omega) _⟩
            · rw [if_neg (show ¬ (a < 0 ∨ b < 128 - a) by omega), e8] at hc h4
              have h8 : ¬ 128 ≤ a := by omega
              have HF := Lib.hid (hfin (a) (128 - a) (by rw [hc, if_neg (by omega)] <;> first | rfl | (congr 2; done) | (congr 2; omega)) (by omega) (by omega))
              have st := storeRn_at (cs := #[.int .i64 (a), .int .i64 (128 - a)]) HZ.out rfl rfl (rnC_one _ _)
              have HG := Lib.hid (setRow_heap _ _ _ #[.int .i64 (a), .int .i64 (128 - a)] _ _ HZ.out)
              clear hfin hc
              go_enter Tryz.func50, Tryz.ntmps50
              go_wp2_with fail
              refine ret_rn (cs := #[.int .i64 (a), .int .i64 (128 - a)]) rfl rfl rfl rfl HG.out ?_
              exact ⟨by rw [HF.out]; rfl, Below.setRow HB.out (by omega) _⟩

end Go.Proofs.YtcidbmldbikknaaGreatDoor

/-
  Walks: ranges of keys, by the program. No condition.
  Walks: ranges that meet, overlap, cover each other, by the program. No condition.
  Walks: what two ranges have in common, and whether there is anything, by the program. No condition.
-/
import Derived.Test.YtcefkngblddpoaaGreatDoorG18
import Derived.Test.YtcefkngblddpoaaGreatDoorShelf
import Derived.Laws.EntriesVeiled
namespace Go.Proofs.YtcefkngblddpoaaGreatDoor

section
set_option maxRecDepth 100000
set_option maxHeartbeats 1000000
set_option linter.unusedSimpArgs false
set_option linter.unusedVariables false
open Go.RowKit Go.Sort
theorem info_rg : (Tryz.prog.info? 58).map (·.size) = some 3 := by kernel_rfl
theorem info_lk : (Tryz.prog.info? 60).map (·.size) = some 6 := by kernel_rfl
abbrev rgZ : Array Value := #[.string ⟨#[]⟩, .string ⟨#[]⟩, .bool false]
def loadRg (p : Addr) : Sem Value := loadVar 58 p
theorem loadRg_down (p : Addr) : loadVar 58 p = loadRg p := rfl
theorem loadRg_at {w : World} {g : Nat} {cs : Array Value} {t : TypeId} {fr : Nat × Nat} (hg : w.heap[g]? = some (.cells cs t fr)) (hi : cs.size = 3) : (loadRg ⟨g, 0, none⟩).run Tryz.prog w = .ok (.agg cs) w :=
 run_loadVar_row (P := Tryz.prog) w g t 58 cs fr _ hg Tryz.underlying58 rfl (by rw [info_rg, hi])
def storeRg (p : Addr) (v : Value) : Sem Unit := storeVar 58 p v
theorem storeRg_down (p : Addr) (v : Value) : storeVar 58 p v = storeRg p v := rfl
theorem storeRg_at {w : World} {g : Nat} {cs : Array Value} {t : TypeId} {old : Array Value} (hg : w.heap[g]? = some (.cells old t (0, 0))) (hi : cs.size = 3) (ho : old.size = cs.size) (h1 : cs.all (·.oneCell') = true) : (storeRg ⟨g, 0, none⟩ (.agg cs)).run Tryz.prog w = .ok () (w.setRow g cs) :=
 run_storeVar_row (P := Tryz.prog) w g t 58 old cs hg (by rw [info_rg, hi]) ho h1
theorem ret_rg {fn : Func} {R : Ending → World → Prop} {a : Act} {w : World} {p : Tmp} {rb : Nat} {cs : Array Value} (hf : fn.results = #[.cell p 58]) (hp : a.tmps.getD p undef = .pointer (some ⟨rb, 0, none⟩)) (hd : a.defers = [])
 (hi : cs.size = 3) (hg : w.heap[rb]? = some (.cells cs 58 (0, 0))) (hR : R (.returned (.agg cs)) w) : bodyPost Tryz.prog fn R .ret a w :=
 bodyPost_ret (results_cell_row hf _ _ rb 58 _ (0, 0) _ hp hg Tryz.underlying58 rfl (by rw [info_rg, hi])) hd hR
/-- A range in a result's block of its own. -/
theorem put_rg (w : World) (r : Rg) : ∃ W, (storeRg ⟨w.heap.size, 0, none⟩ (.agg r.cs)).run Tryz.prog (w.alloc (.cells rgZ 58)) = .ok () W ∧ W.heap[w.heap.size]? = some (.cells r.cs 58 (0, 0)) ∧ Below w.heap.size w W := by
 have hz := heap_alloc_new w (.cells rgZ 58)
 exact ⟨_, storeRg_at hz rfl rfl (by simp [Value.oneCell']), setRow_heap _ _ _ _ _ _ hz, below_setRow (box_below0 w rgZ 58) (Nat.le_refl _) _⟩
section
attribute [local go_sem ↓] loadRg_down storeRg_down
theorem point_any (k : By) (w : World) : Calls Tryz.prog 102 #[.string ⟨k.toArray⟩] w fun e w' => e = .returned (.agg #[.string ⟨k.toArray⟩, .string ⟨k.toArray⟩, .bool false]) ∧ Below w.heap.size w w' := by
 obtain ⟨W, hst, hz, hb⟩ := put_rg w ⟨k, k, false⟩
 have HZ := Lib.hid hz
 have HB := Lib.hid hb
 clear hz hb
 go_enter Tryz.func102, Tryz.ntmps102
 go_wp2_with fail
 exact ret_rg rfl rfl rfl rfl HZ.out ⟨rfl, HB.out⟩
theorem from_any (k : By) (w : World) : Calls Tryz.prog 104 #[.string ⟨k.toArray⟩] w fun e w' => e = .returned (.agg #[.string ⟨k.toArray⟩, .string ⟨#[]⟩, .bool true]) ∧ Below w.heap.size w w' := by
 obtain ⟨W, hst, hz, hb⟩ := put_rg w ⟨k, [], true⟩
 have HZ := Lib.hid hz
 have HB := Lib.hid hb
 clear hz hb
 go_enter Tryz.func104, Tryz.ntmps104
 go_wp2_with fail
 exact ret_rg rfl rfl rfl rfl HZ.out ⟨rfl, HB.out⟩
theorem in1_any (r : Rg) (k : By) (g g2 : Nat) (w : World) (hg : w.heap[g]? = some (.cells r.cs 58 (0, 0))) (hk : w.cell? ⟨g2, 0, none⟩ = some (.string ⟨k.toArray⟩)) :
 Calls Tryz.prog 198 #[.pointer (some ⟨g, 0, none⟩), .pointer (some ⟨g2, 0, none⟩)] w fun e w' => e = .returned (.bool (!r.en && Op.bytesLess r.hi k)) ∧ Below w.heap.size w w' := by
 obtain ⟨lo, hi, en⟩ := r
 have c1 := cell_at (i := 1) (v := .string ⟨hi.toArray⟩) hg rfl
 have c2 := cell_at (i := 2) (v := .bool en) hg rfl
 clear hg
 cases en with
 | true =>
   go_enter Tryz.func198, Tryz.ntmps198
   go_wp2_with fail
   go_ret
   exact ⟨rfl, Below.refl _ _⟩
 | false =>
   go_enter Tryz.func198, Tryz.ntmps198
   go_wp2_with fail
   go_ret
   exact ⟨congrArg (fun b => Ending.returned (Value.bool b)) (gt_eq k hi), Below.refl _ _⟩
theorem in_any (r : Rg) (k : By) (w : World) : Calls Tryz.prog 156 #[.agg r.cs, .string ⟨k.toArray⟩] w fun e w' => e = .returned (.bool (inR r k)) ∧ Below w.heap.size w w' := by
 obtain ⟨W1, hW1⟩ : ∃ W1, W1 = (w.alloc (.cells r.cs 58)).alloc (.cells #[.string ⟨k.toArray⟩] 9) := ⟨_, rfl⟩
 have hz := heap_alloc_new w (.cells r.cs 58)
 have hb := box_below0 w r.cs 58
 have hk := heap_alloc_new (w.alloc (.cells r.cs 58)) (.cells #[.string ⟨k.toArray⟩] 9)
 have hsz : (w.alloc (.cells r.cs 58)).heap.size = w.heap.size + 1 := by simp
 rw [hsz] at hk
 have hz2 := (halloc (w.alloc (.cells r.cs 58)) (.cells #[.string ⟨k.toArray⟩] 9) (by simp)).trans hz
 have hb2 := hb.trans ((box_below0 (w.alloc (.cells r.cs 58)) #[.string ⟨k.toArray⟩] 9).mono hb.size)
 rw [← hW1] at hk hz2 hb2
 have ck := cell_at (i := 0) (v := .string ⟨k.toArray⟩) hk rfl
 have HC := Lib.hid (in1_any r k w.heap.size (w.heap.size + 1) W1 hz2 ck)
 have HB := Lib.hid hb2
 have c0 := cell_at (i := 0) (v := .string ⟨r.lo.toArray⟩) hz2 rfl
 have HW1 := Lib.hid hW1
 clear hz hb hk hsz hz2 hb2 hW1
 have HF := Lib.hid (show inR r k = (!Op.bytesLess k r.lo && !(!r.en && Op.bytesLess r.hi k)) by unfold inR; cases r.en <;> simp)
 generalize inR r k = q at HF ⊢
 generalize hy : (!r.en && Op.bytesLess r.hi k) = y at HC HF
 obtain ⟨lo, hi, en⟩ := r
 simp only at c0 HF HB HW1
 cases h1 : Op.bytesLess k lo with
 | true =>
   have HQ := Lib.hid (show q = false by rw [HF.out, h1]; rfl)
   go_enter Tryz.func156, Tryz.ntmps156
   go_upto_region 1 with fail
   rw [← HW1.out]
   go_wp2_with fail
   go_ret
   exact ⟨by rw [HQ.out]; rfl, HB.out⟩
 | false =>
   have HQ := Lib.hid (show q = !y by rw [HF.out, h1]; simp)
   go_enter Tryz.func156, Tryz.ntmps156
   go_upto_region 1 with fail
   rw [← HW1.out]
   go_wp2_with fail
   refine HC.out.mono ?_
   rintro e w2 ⟨rfl, hb3⟩
   have HB3 := Lib.hid (HB.out.trans (hb3.mono HB.out.size))
   clear hb3
   go_wp2_with fail
   go_ret
   exact ⟨by rw [HQ.out]; rfl, HB3.out⟩
theorem empR_any (r : Rg) (w : World) : Calls Tryz.prog 96 #[.agg r.cs] w fun e w' => e = .returned (.bool (emR r)) ∧ Below w.heap.size w w' := by
 have hz := heap_alloc_new w (.cells r.cs 58)
 have HB := Lib.hid (box_below0 w r.cs 58)
 have ld := loadRg_at hz rfl
 have c0 := cell_at (i := 0) (v := .string ⟨r.lo.toArray⟩) hz rfl
 have HC := Lib.hid (in_any r r.lo (w.alloc (.cells r.cs 58)))
 have HF := Lib.hid (show emR r = !inR r r.lo from rfl)
 clear hz
 generalize emR r = q at HF ⊢
 generalize inR r r.lo = y at HC HF
 go_enter Tryz.func96, Tryz.ntmps96
 go_wp2_with fail
 refine HC.out.mono ?_
 rintro e w2 ⟨rfl, hb3⟩
 have HB3 := Lib.hid (HB.out.trans (hb3.mono HB.out.size))
 clear hb3
 go_wp2_with fail
 go_ret
 exact ⟨by rw [HF.out]; rfl, HB3.out⟩
end
end

section
set_option maxRecDepth 100000
set_option maxHeartbeats 1000000
set_option linter.unusedSimpArgs false
set_option linter.unusedVariables false
open Go.RowKit Go.Sort
theorem cmpB_less : ∀ a b : By, (Lib.compareBytes a b = -1 ∧ Op.bytesLess a b = true) ∨ (Lib.compareBytes a b = 0 ∧ Op.bytesLess a b = false ∧ Op.bytesLess b a = false) ∨ (Lib.compareBytes a b = 1 ∧ Op.bytesLess b a = true ∧ Op.bytesLess a b = false)
 | [], [] => by simp [Lib.compareBytes, Op.bytesLess]
 | [], _ :: _ => by simp [Lib.compareBytes, Op.bytesLess]
 | _ :: _, [] => by simp [Lib.compareBytes, Op.bytesLess]
 | x :: a, y :: b => by
   have ih := cmpB_less a b
   unfold Lib.compareBytes
   simp only [Op.bytesLess]
   by_cases h1 : x < y
   · left; simp [h1]
   · by_cases h2 : y < x
     · right; right; simp [h1, h2]
       intro e; subst e; exact absurd h2 (UInt8.lt_irrefl _)
     · have e : x = y := by
        by_cases e : x = y
        · exact e
        · rcases UInt8.lt_or_lt_of_ne e with h | h
          · exact absurd h h1
          · exact absurd h h2
       subst e
       simpa [h1] using ih
theorem two_rg (w : World) (x y : Array Value) : ∃ W, W = (w.alloc (.cells x 58)).alloc (.cells y 58) ∧ W.heap[w.heap.size]? = some (.cells x 58 (0, 0)) ∧ W.heap[w.heap.size + 1]? = some (.cells y 58 (0, 0)) ∧ Below w.heap.size w W ∧ W.heap.size = w.heap.size + 2 := by
 have hz := heap_alloc_new w (.cells x 58)
 have hb := box_below0 w x 58
 have hk := heap_alloc_new (w.alloc (.cells x 58)) (.cells y 58)
 have hsz : (w.alloc (.cells x 58)).heap.size = w.heap.size + 1 := by simp
 rw [hsz] at hk
 exact ⟨_, rfl, (halloc (w.alloc (.cells x 58)) (.cells y 58) (by simp)).trans hz, hk, hb.trans ((box_below0 (w.alloc (.cells x 58)) y 58).mono hb.size), by simp⟩
section
attribute [local go_sem ↓] loadRg_down storeRg_down
theorem covers_any (a b : Rg) (w : World) : Calls Tryz.prog 290 #[.agg a.cs, .agg b.cs] w fun e w' => e = .returned (.bool (covR a b)) ∧ Below w.heap.size w w' := by
 obtain ⟨W1, hW1, hz1, hz2, hb, _⟩ := two_rg w a.cs b.cs
 have ld := loadRg_at hz2 rfl
 have HE := Lib.hid (empR_any b W1)
 have HC := Lib.hid (fun W => Tryz.strings_Compare ⟨b.hi.toArray⟩ ⟨a.hi.toArray⟩ W)
 have HB := Lib.hid hb
 have HW1 := Lib.hid hW1
 have HZ := Lib.hid hz1
 have HZ2 := Lib.hid hz2
 have HF := Lib.hid (show covR a b = (emR b || (!Op.bytesLess b.lo a.lo && (a.en || (!b.en && !Op.bytesLess a.hi b.hi)))) from rfl)
 generalize covR a b = q at HF ⊢
 clear hz1 hz2 hb hW1
 cases he : emR b with
 | true =>
   rw [he] at HE HF
   have HQ := Lib.hid (show q = true by rw [HF.out]; rfl)
   go_enter Tryz.func290, Tryz.ntmps290
   go_upto_region 1 with fail
   rw [← HW1.out]
   go_wp2_with fail
   refine HE.out.mono ?_
   rintro e w2 ⟨rfl, hb3⟩
   have HB3 := Lib.hid (HB.out.trans (hb3.mono HB.out.size))
   clear hb3
   go_wp2_with fail
   go_ret
   exact ⟨by rw [HQ.out]; rfl, HB3.out⟩
 | false =>
   rw [he] at HE HF
   cases h1 : Op.bytesLess b.lo a.lo with
   | true =>
     rw [h1] at HF
     have HQ := Lib.hid (show q = false by rw [HF.out]; rfl)
     obtain ⟨alo, ahi, aen⟩ := a
     obtain ⟨blo, bhi, ben⟩ := b
     simp only at h1
     go_enter Tryz.func290, Tryz.ntmps290
     go_upto_region 1 with fail
     rw [← HW1.out]
     go_wp2_with fail
     refine HE.out.mono ?_
     rintro e w2 ⟨rfl, hb3⟩
     have HB3 := Lib.hid (HB.out.trans (hb3.mono HB.out.size))
     have c0 := cell_at (i := 0) (v := .string ⟨alo.toArray⟩) (heap_below hb3 (lt_of_block HZ.out) HZ.out) rfl
     have d0 := cell_at (i := 0) (v := .string ⟨blo.toArray⟩) (heap_below hb3 (lt_of_block HZ2.out) HZ2.out) rfl
     clear hb3
     go_wp2_with fail
     go_ret
     exact ⟨by rw [HQ.out]; rfl, HB3.out⟩
   | false =>
     rw [h1] at HF
     obtain ⟨alo, ahi, aen⟩ := a
     obtain ⟨blo, bhi, ben⟩ := b
     simp only at h1 HF HC
     rcases cmpB_less bhi ahi with ⟨hc, h2⟩ | ⟨hc, h3, h2⟩ | ⟨hc, h2, h3⟩
     all_goals
      simp only [hc] at HC
      have HQ := Lib.hid (show q = (aen || (!ben && !Op.bytesLess ahi bhi)) by rw [HF.out]; rfl)
      first | rw [ls_asym h2] at HQ | rw [h2] at HQ
      clear hc h2
      try clear h3
      cases aen <;> cases ben
      all_goals
       go_enter Tryz.func290, Tryz.ntmps290
       go_upto_region 1 with fail
       rw [← HW1.out]
       go_wp2_with fail
       refine HE.out.mono ?_
       rintro e w2 ⟨rfl, hb3⟩
       have HB3 := Lib.hid (HB.out.trans (hb3.mono HB.out.size))
       have hz1 := heap_below hb3 (lt_of_block HZ.out) HZ.out
       have hz2 := heap_below hb3 (lt_of_block HZ2.out) HZ2.out
       have c0 := cell_at (i := 0) (v := .string ⟨alo.toArray⟩) hz1 rfl
       have d0 := cell_at (i := 0) (v := .string ⟨blo.toArray⟩) hz2 rfl
       have c1 := cell_at (i := 1) (v := .string ⟨ahi.toArray⟩) hz1 rfl
       have d1 := cell_at (i := 1) (v := .string ⟨bhi.toArray⟩) hz2 rfl
       have c2 := cell_at (i := 2) hz1 rfl
       have d2 := cell_at (i := 2) hz2 rfl
       clear hz1 hz2 hb3
       go_wp2_with fail
       first
        | (go_ret; exact ⟨by rw [HQ.out]; rfl, HB3.out⟩)
        | (refine (HC.out _).mono ?_
           rintro e _ ⟨rfl, rfl⟩
           go_wp2_with fail
           go_ret
           exact ⟨by rw [HQ.out]; rfl, HB3.out⟩)
end
end

section
set_option maxRecDepth 100000
set_option maxHeartbeats 4000000
set_option linter.unusedSimpArgs false
set_option linter.unusedVariables false
open Go.RowKit Go.Sort
theorem run_maxS {P : Program} (w : World) (ts : Array TypeId) (t : TypeId) (x y : By) : (Builtin.max_ ts t #[.string ⟨x.toArray⟩, .string ⟨y.toArray⟩]).run P w = .ok (.string ⟨(maxS x y).toArray⟩) w := by
 unfold maxS
 cases h : Op.bytesLess x y <;> simp [Builtin.max_, Builtin.max2, Op.stringOp, asBool, Lib.toList_data, h]
theorem run_minS {P : Program} (w : World) (ts : Array TypeId) (t : TypeId) (x y : By) : (Builtin.min_ ts t #[.string ⟨x.toArray⟩, .string ⟨y.toArray⟩]).run P w = .ok (.string ⟨(minS x y).toArray⟩) w := by
 unfold minS
 cases h : Op.bytesLess y x <;> simp [Builtin.min_, Builtin.min2, Op.stringOp, asBool, Lib.toList_data, h]
 · intro h1 h2
   rw [ls_tot h1 h2] at h; cases h
 · intro h1
   rcases h1 with h1 | h1
   · rw [ls_asym h1] at h; cases h
   · exact h1
section
attribute [local go_sem ↓] loadRg_down storeRg_down
theorem meet_any (a b : Rg) (w : World) : Calls Tryz.prog 199 #[.agg a.cs, .agg b.cs] w fun e w' => e = .returned (.agg (meetR a b).cs) ∧ Below w.heap.size w w' := by
 obtain ⟨W1, hW1, hz1, hz2, hb, hsz⟩ := two_rg w a.cs b.cs
 have HW1 := Lib.hid hW1
 have hr := heap_alloc_new W1 (.cells rgZ 58)
 have hb1 := box_below0 W1 rgZ 58
 have hsz : W1.heap.size = w.heap.size + 1 + 1 := hsz
 rw [hsz] at hr
 obtain ⟨W2, hW2⟩ : ∃ W2, W2 = W1.alloc (.cells rgZ 58) := ⟨_, rfl⟩
 have hsz2 : W2.heap.size = w.heap.size + 1 + 1 + 1 := by rw [hW2, World.size_alloc, hsz]
 rw [← hW2] at hr hb1
 have y1 := heap_below hb1 (lt_of_block hz1) hz1
 have y2 := heap_below hb1 (lt_of_block hz2) hz2
 obtain ⟨W3, hst, hz3, hb3⟩ := put_rg W2 ⟨maxS a.lo b.lo, [], a.en && b.en⟩
 have HB3 := Lib.hid ((hb.trans (hb1.mono hb.size)).trans (hb3.mono (Nat.le_trans hb.size hb1.size)))
 have HR3 := Lib.hid (heap_below hb3 (lt_of_block hr) hr)
 have Y1 := Lib.hid (heap_below hb3 (lt_of_block y1) y1)
 have Y2 := Lib.hid (heap_below hb3 (lt_of_block y2) y2)
 have HW2 := Lib.hid hW2
 have HZ3 := Lib.hid hz3
 obtain ⟨alo, ahi, aen⟩ := a
 obtain ⟨blo, bhi, ben⟩ := b
 have a0 := cell_at (i := 0) (v := .string ⟨alo.toArray⟩) y1 rfl
 have b0 := cell_at (i := 0) (v := .string ⟨blo.toArray⟩) y2 rfl
 have a2 := cell_at (i := 2) (v := .bool aen) y1 rfl
 have b2 := cell_at (i := 2) (v := .bool ben) y2 rfl
 have hmx := fun (W : World) ts t => run_maxS (P := Tryz.prog) W ts t alo blo
 have hmn := fun (W : World) ts t => run_minS (P := Tryz.prog) W ts t ahi bhi
 have HS2 := Lib.hid hsz2
 have HLT := Lib.hid (show w.heap.size + 1 + 1 < W3.heap.size ∧ W2.heap.size < W3.heap.size from ⟨lt_of_block HR3.out, lt_of_block hz3⟩)
 clear hW1 hz1 hz2 hb hsz hr hb1 hW2 hsz2 y1 y2 hb3 hz3
 simp only at hst
 have e1 := cell_at (i := 1) (v := .string ⟨ahi.toArray⟩) Y1.out rfl
 have e2 := cell_at (i := 2) (v := .bool aen) Y1.out rfl
 have f1 := cell_at (i := 1) (v := .string ⟨bhi.toArray⟩) Y2.out rfl
 have f2 := cell_at (i := 2) (v := .bool ben) Y2.out rfl
 have o1 := cell_at (i := 1) (v := .string ⟨#[]⟩) HZ3.out rfl
 have o2 := cell_at (i := 2) (v := .bool (aen && ben)) HZ3.out rfl
 have z1 := free_at HZ3.out 1
 have fin : ∀ (hi : By) (W : World), W = W3.setCell ⟨W2.heap.size, 1, none⟩ (.string ⟨hi.toArray⟩) → ∃ V, (loadRg ⟨W2.heap.size, 0, none⟩).run Tryz.prog W = .ok (.agg #[.string ⟨(maxS alo blo).toArray⟩, .string ⟨hi.toArray⟩, .bool (aen && ben)]) W ∧
  (storeRg ⟨w.heap.size + 1 + 1, 0, none⟩ (.agg #[.string ⟨(maxS alo blo).toArray⟩, .string ⟨hi.toArray⟩, .bool (aen && ben)])).run Tryz.prog W = .ok () V ∧ V.heap[w.heap.size + 1 + 1]? = some (.cells #[.string ⟨(maxS alo blo).toArray⟩, .string ⟨hi.toArray⟩, .bool (aen && ben)] 58 (0, 0)) ∧ Below w.heap.size w V := by
  intro hi W hW
  have r1 := cell_row_any W3 (W2.heap.size) 1 _ _ _ (.string ⟨hi.toArray⟩) HZ3.out
  rw [← hW] at r1
  have o3 : Only [W2.heap.size] W3 W := by rw [hW]; exact (Only.refl _ _).setCell (Or.inl (by simp)) _
  have hr3 := o3.heap HR3.out (by have := HS2.out; rw [List.mem_singleton]; omega)
  exact ⟨_, loadRg_at r1 rfl, storeRg_at hr3 rfl rfl (by simp [Value.oneCell']), setRow_heap _ _ _ _ _ _ hr3, below_setRow (HB3.out.trans (o3.below HB3.out.size (fun k hk => by have := HS2.out; rw [List.mem_singleton] at hk; omega))) (by omega) _⟩
 have fin0 : ∃ V, (loadRg ⟨W2.heap.size, 0, none⟩).run Tryz.prog W3 = .ok (.agg #[.string ⟨(maxS alo blo).toArray⟩, .string ⟨#[]⟩, .bool (aen && ben)]) W3 ∧
  (storeRg ⟨w.heap.size + 1 + 1, 0, none⟩ (.agg #[.string ⟨(maxS alo blo).toArray⟩, .string ⟨#[]⟩, .bool (aen && ben)])).run Tryz.prog W3 = .ok () V ∧ V.heap[w.heap.size + 1 + 1]? = some (.cells #[.string ⟨(maxS alo blo).toArray⟩, .string ⟨#[]⟩, .bool (aen && ben)] 58 (0, 0)) ∧ Below w.heap.size w V :=
  ⟨_, loadRg_at HZ3.out rfl, storeRg_at HR3.out rfl rfl (by simp [Value.oneCell']), setRow_heap _ _ _ _ _ _ HR3.out, below_setRow HB3.out (by omega) _⟩
 have HFIN := Lib.hid fin
 have HF := Lib.hid (show (meetR ⟨alo, ahi, aen⟩ ⟨blo, bhi, ben⟩).cs = #[.string ⟨(maxS alo blo).toArray⟩, .string ⟨((if aen then (if ben then [] else bhi) else if ben then ahi else minS ahi bhi : By)).toArray⟩, .bool (aen && ben)] from rfl)
 generalize (meetR ⟨alo, ahi, aen⟩ ⟨blo, bhi, ben⟩).cs = R at HF ⊢
 clear fin
 cases aen <;> cases ben <;> simp only [Bool.and_false, Bool.and_true, Bool.and_self, Bool.false_eq_true, if_true, if_false] at hst o2 HFIN HF fin0
 · obtain ⟨V, hl, hs, hv, hbv⟩ := HFIN.out (minS ahi bhi) _ rfl
   have HV := Lib.hid hv
   have HBV := Lib.hid hbv
   clear hv hbv fin0
   go_enter Tryz.func199, Tryz.ntmps199
   go_upto_region 1 with fail
   rw [← HW1.out, ← HW2.out]
   go_wp2_with fail
   exact ret_rg rfl rfl rfl rfl HV.out ⟨by rw [HF.out], HBV.out⟩
 · obtain ⟨V, hl, hs, hv, hbv⟩ := HFIN.out ahi _ rfl
   have HV := Lib.hid hv
   have HBV := Lib.hid hbv
   clear hv hbv fin0
   go_enter Tryz.func199, Tryz.ntmps199
   go_upto_region 1 with fail
   rw [← HW1.out, ← HW2.out]
   go_wp2_with fail
   exact ret_rg rfl rfl rfl rfl HV.out ⟨by rw [HF.out], HBV.out⟩
 · obtain ⟨V, hl, hs, hv, hbv⟩ := HFIN.out bhi _ rfl
   have HV := Lib.hid hv
   have HBV := Lib.hid hbv
   clear hv hbv fin0
   go_enter Tryz.func199, Tryz.ntmps199
   go_upto_region 1 with fail
   rw [← HW1.out, ← HW2.out]
   go_wp2_with fail
   exact ret_rg rfl rfl rfl rfl HV.out ⟨by rw [HF.out], HBV.out⟩
 · obtain ⟨V, hl, hs, hv, hbv⟩ := fin0
   have HV := Lib.hid hv
   have HBV := Lib.hid hbv
   clear hv hbv
   go_enter Tryz.func199, Tryz.ntmps199
   go_upto_region 1 with fail
   rw [← HW1.out, ← HW2.out]
   go_wp2_with fail
   exact ret_rg rfl rfl rfl rfl HV.out ⟨by rw [HF.out], HBV.out⟩
theorem overlap_any (a b : Rg) (w : World) : Calls Tryz.prog 157 #[.agg a.cs, .agg b.cs] w fun e w' => e = .returned (.bool (overR a b)) ∧ Below w.heap.size w w' := by
 obtain ⟨W1, hW1, hz1, hz2, hb, _⟩ := two_rg w a.cs b.cs
 have ld1 := loadRg_at hz1 rfl
 have ld2 := loadRg_at hz2 rfl
 have HM := Lib.hid (meet_any a b W1)
 have HE := Lib.hid (fun W => empR_any (meetR a b) W)
 have HB := Lib.hid hb
 have HW1 := Lib.hid hW1
 have HF := Lib.hid (show overR a b = !emR (meetR a b) from rfl)
 generalize overR a b = q at HF ⊢
 generalize emR (meetR a b) = y at HE HF
 generalize (meetR a b).cs = mc at HM HE
 clear hz1 hz2 hb hW1
 go_enter Tryz.func157, Tryz.ntmps157
 go_upto_region 1 with fail
 rw [← HW1.out]
 go_wp2_with fail
 refine HM.out.mono ?_
 rintro e w2 ⟨rfl, hb2⟩
 have HB2 := Lib.hid (HB.out.trans (hb2.mono HB.out.size))
 clear hb2
 go_wp2_with fail
 refine (HE.out _).mono ?_
 rintro e w3 ⟨rfl, hb3⟩
 have HB3 := Lib.hid (HB2.out.trans (hb3.mono HB2.out.size))
 clear hb3
 go_wp2_with fail
 go_ret
 exact ⟨by rw [HF.out]; rfl, HB3.out⟩
end
end

end Go.Proofs.YtcefkngblddpoaaGreatDoor

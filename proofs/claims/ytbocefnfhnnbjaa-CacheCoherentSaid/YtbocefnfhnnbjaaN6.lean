/-
  The pool of pages: New, Get. No condition.
-/
import Derived.Test.YtbocefnfhnnbjaaN5
namespace Go.Proofs.Ytbocefnfhnnbjaa
open Go.RowKit Go.Sort

set_option maxRecDepth 100000 in
set_option maxHeartbeats 2000000 in
theorem poolNew_any (w : World) (cap : Int) (h1 : 1 ≤ cap) (h2 : cap ≤ 4096) :
    Calls Try.prog 25 #[.int .i64 cap] w fun e w' => ∃ pb mb, e = .returned (.tuple #[.pointer (some ⟨pb, 0, none⟩), .int .i64 0]) ∧ PoolAt w' (pb + 1) pb mb none 0 cap 0 0 [] [] ∧ Below w.heap.size w w' ∧ w.heap.size ≤ pb ∧ w.heap.size ≤ mb := by
  have hmm := @run_makeMap Try.prog
  have h3 : ¬ cap < 1 := by omega
  have h4 : ¬ 4096 < cap := by omega
  go_enter Try.func25, Try.ntmps25
  go_wp2_with fail
  go_ret2
  have hm : amap (w.alloc (.map #[] 0)) w.heap.size kPlace vCt okP [] := amap_new w _ _ _
  have hg := heap_alloc_new (w.alloc (.map #[] 0)) (.cells #[.int .i64 cap, .map (some w.heap.size), .slice none 0 0, .int .i64 0, .int .i64 0] 93)
  have hs : (w.alloc (.map #[] 0)).heap.size = w.heap.size + 1 := by simp
  refine ⟨w.heap.size + 1, rfl, w.heap.size, ⟨by rw [hs] at hg; exact hg, amap_keep hm (halloc _ _ (by simp)), ⟨by simp [plF], Or.inl ⟨rfl, rfl⟩⟩, by simp, by omega, by omega, by omega, by simp⟩, ((Below.refl _ _).alloc (by simp) _).alloc (by simp) _, by omega, by omega⟩

theorem poolLook (w : World) (mb : Nat) (M : List (Pl × Ct)) (x : Pl) (h : amap w mb kPlace vCt okP M) (hx : okP x) :
    (Instr.lookup 90 (.map (some mb)) (.agg #[.int .i64 x.1, .int .i64 x.2]) true).run Try.prog w = .ok (.tuple #[((alook M x).map vCt).getD (.agg #[.string ⟨#[]⟩, .int .i64 0]), .bool (alook M x).isSome]) w :=
  amap_lookup_ok (T := 90) (E := 106) (K := 104) (P := Try.prog) keyAt Try.underlying90 h hx (zero106 w)

theorem ret3 {fn : Func} {R : Ending → World → Prop} {a : Act} {w : World} {p0 p1 p2 : Tmp} {v0 v1 v2 : Value} (hr : fn.results = #[.tmp p0, .tmp p1, .tmp p2]) (h0 : a.tmps.getD p0 undef = v0) (h1 : a.tmps.getD p1 undef = v1) (h2 : a.tmps.getD p2 undef = v2)
    (hd : a.defers = []) (hR : R (.returned (.tuple #[v0, v1, v2])) w) : bodyPost Try.prog fn R .ret a w := by
  subst h0 h1 h2
  exact bodyPost_ret (by simp [results, hr, go_sem]) hd hR
theorem PoolAt.setM {w : World} {base pb mb : Nat} {oa : Option Addr} {oc : Nat} {cap h m : Int} {M : List (Pl × Ct)} {O : List Pl} (hp : PoolAt w base pb mb oa oc cap h m M O) (m' : Int) : PoolAt (w.setCell ⟨pb, 4, none⟩ (.int .i64 m')) base pb mb oa oc cap h m' M O := by
  have hN : Only [pb] w (w.setCell ⟨pb, 4, none⟩ (.int .i64 m')) := (Only.refl _ w).setCell (Or.inl (by simp)) _
  refine ⟨by rw [heap_setCell_same _ _ _ _ _ _ hp.blk]; rfl, amap_keep hp.pages (hN.block mb (amap_lt hp.pages) (by have := hp.ne; simp; omega)), pl_only hp.ord hN (fun k hk => by have h1 := pl_own hp.ord hk; have := hp.pl; simp; omega), hp.ok, hp.ne, hp.pl, hp.ml, Nat.le_trans hp.bs hN.size⟩
theorem PoolAt.setH {w : World} {base pb mb : Nat} {oa : Option Addr} {oc : Nat} {cap h m : Int} {M : List (Pl × Ct)} {O : List Pl} (hp : PoolAt w base pb mb oa oc cap h m M O) (h' : Int) : PoolAt (w.setCell ⟨pb, 3, none⟩ (.int .i64 h')) base pb mb oa oc cap h' m M O := by
  have hN : Only [pb] w (w.setCell ⟨pb, 3, none⟩ (.int .i64 h')) := (Only.refl _ w).setCell (Or.inl (by simp)) _
  refine ⟨by rw [heap_setCell_same _ _ _ _ _ _ hp.blk]; rfl, amap_keep hp.pages (hN.block mb (amap_lt hp.pages) (by have := hp.ne; simp; omega)), pl_only hp.ord hN (fun k hk => by have h1 := pl_own hp.ord hk; have := hp.pl; simp; omega), hp.ok, hp.ne, hp.pl, hp.ml, Nat.le_trans hp.bs hN.size⟩

attribute [local go_sem ↓] loadPl_down storePl_down loadCt_down storeCt_down
set_option maxRecDepth 100000 in
set_option maxHeartbeats 8000000 in
theorem get_none (w : World) (base pb mb : Nat) (oa : Option Addr) (oc : Nat) (cap h m : Int) (M : List (Pl × Ct)) (O : List Pl) (x1 x2 : Int)
    (hp : PoolAt w base pb mb oa oc cap h m M O) (hx : okP (x1, x2)) (hk : alook M (x1, x2) = none) :
    Calls Try.prog 39 #[.pointer (some ⟨pb, 0, none⟩), .int .i64 x1, .int .i64 x2] w fun e w' => ∃ m', e = .returned (.tuple #[.string ⟨#[]⟩, .int .i64 0, .bool false]) ∧ PoolAt w' base pb mb oa oc cap h m' M O ∧ Only [pb] w w' := by
  obtain ⟨W1, hW1⟩ : ∃ W1, W1 = (w.alloc (.cells #[.int .i64 0, .int .i64 0] 104)).setRow w.heap.size #[.int .i64 x1, .int .i64 x2] := ⟨_, rfl⟩
  have st1 := storePl_at (cs := #[.int .i64 x1, .int .i64 x2]) (heap_alloc_new w (.cells #[.int .i64 0, .int .i64 0] 104)) rfl rfl (by simp [Value.oneCell'])
  have hg1 : W1.heap[w.heap.size]? = some (.cells #[.int .i64 x1, .int .i64 x2] 104 (0, 0)) := by rw [hW1]; exact setRow_heap _ _ _ _ _ _ (heap_alloc_new _ _)
  have hb1 : Below w.heap.size w W1 := by rw [hW1]; exact below_setRow ((Below.refl _ _).alloc (Nat.le_refl _) _) (Nat.le_refl _) _
  rw [← hW1] at st1
  have hp1 := hp.below hb1
  have hba : Below W1.heap.size W1 (W1.alloc (.cells #[.string ⟨#[]⟩, .int .i64 0] 106)) := (Below.refl _ _).alloc (Nat.le_refl _) _
  have L1 := poolLook W1.drew mb M (x1, x2) (amap_keep hp1.pages rfl) hx
  have L2 := poolLook (W1.alloc (.cells #[.string ⟨#[]⟩, .int .i64 0] 106)).drew mb M (x1, x2) (amap_keep hp1.pages (hba.block mb (amap_lt hp1.pages))) hx
  rw [hk] at L1 L2
  have dp1 := loadPl_at (w := W1.drew) hg1 rfl
  have dp2 := loadPl_at (w := (W1.alloc (.cells #[.string ⟨#[]⟩, .int .i64 0] 106)).drew) ((hba.block _ (lt_of_block hg1)).trans hg1) rfl
  have c1 := cell_at (i := 1) (v := .map (some mb)) hp1.blk rfl
  have c1a := (hba.cell (p := ⟨pb, 1, none⟩) (block_lt_of_cell c1)).trans c1
  obtain ⟨W2, hW2⟩ : ∃ W2, W2 = (W1.alloc (.cells #[.string ⟨#[]⟩, .int .i64 0] 106)).drew.setRow W1.heap.size #[.string ⟨#[]⟩, .int .i64 0] := ⟨_, rfl⟩
  have hz2 : (W1.alloc (.cells #[.string ⟨#[]⟩, .int .i64 0] 106)).drew.heap[W1.heap.size]? = some (.cells #[.string ⟨#[]⟩, .int .i64 0] 106 (0, 0)) := heap_alloc_new W1 _
  have st2 := storeCt_at (cs := #[.string ⟨#[]⟩, .int .i64 0]) hz2 rfl rfl (by simp [Value.oneCell'])
  have hb2 : Below W1.heap.size W1 W2 := by rw [hW2]; exact below_setRow (hba.drew) (Nat.le_refl _) _
  rw [← hW2] at st2
  have hp2 := hp1.below hb2
  have c4 := cell_at (i := 4) (v := .int .i64 m) hp2.blk rfl
  have f4 := frozen_of_row _ _ 4 _ _ hp2.blk
  have HP2 := Lib.hid hp2
  have HB2 := Lib.hid (hb1.trans (hb2.mono hb1.size))
  simp only [Option.map_none, Option.getD_none, Option.isSome_none] at L1 L2
  clear hp hg1 hb1 hp1 hba hz2 hb2 hp2 hW1 hW2 hk
  go_enter Try.func39, Try.ntmps39
  go_wp2_with fail
  go_region
  all_goals
    go_wp2_with fail
    refine ret3 rfl rfl rfl rfl rfl ?_
    refine ⟨_, rfl, HP2.out.setM _, ?_⟩
    exact ((Only.of_below HB2.out).setCell (Or.inl (by simp)) _)

set_option maxRecDepth 100000 in
set_option maxHeartbeats 8000000 in
theorem get_some (w : World) (base pb mb : Nat) (oa : Option Addr) (oc : Nat) (cap h m : Int) (M : List (Pl × Ct)) (O : List Pl) (x1 x2 : Int) (d : ByteArray) (v : Int)
    (hp : PoolAt w base pb mb oa oc cap h m M O) (hl : O.length ≤ 100000) (hx : okP (x1, x2)) (hk : alook M (x1, x2) = some (d, v)) :
    Calls Try.prog 39 #[.pointer (some ⟨pb, 0, none⟩), .int .i64 x1, .int .i64 x2] w fun e w' => e = .returned (.tuple #[.string d, .int .i64 v, .bool true]) ∧ ∃ (h' : Int) (oa' : Option Addr) (oc' : Nat) (M' : List (Pl × Ct)), PoolAt w' base pb mb oa' oc' cap h' m M' (O.filter (fun y => !isAt (x1, x2) y) ++ [(x1, x2)]) ∧ (∀ k, alook M' k = alook M k) ∧ Only [pb, mb, obOf w oa] w w' ∧ (∀ q, oa' = some q → q.block = obOf w oa ∨ w.heap.size ≤ q.block) := by
  obtain ⟨W1, hW1⟩ : ∃ W1, W1 = (w.alloc (.cells #[.int .i64 0, .int .i64 0] 104)).setRow w.heap.size #[.int .i64 x1, .int .i64 x2] := ⟨_, rfl⟩
  have st1 := storePl_at (cs := #[.int .i64 x1, .int .i64 x2]) (heap_alloc_new w (.cells #[.int .i64 0, .int .i64 0] 104)) rfl rfl (by simp [Value.oneCell'])
  have hg1 : W1.heap[w.heap.size]? = some (.cells #[.int .i64 x1, .int .i64 x2] 104 (0, 0)) := by rw [hW1]; exact setRow_heap _ _ _ _ _ _ (heap_alloc_new _ _)
  have hb1 : Below w.heap.size w W1 := by rw [hW1]; exact below_setRow ((Below.refl _ _).alloc (Nat.le_refl _) _) (Nat.le_refl _) _
  have hs1 : W1.heap.size = w.heap.size + 1 := by rw [hW1]; simp
  rw [← hW1] at st1
  have hp1 := hp.below hb1
  have hba : Below W1.heap.size W1 (W1.alloc (.cells #[.string ⟨#[]⟩, .int .i64 0] 106)) := (Below.refl _ _).alloc (Nat.le_refl _) _
  have L1 := poolLook W1.drew mb M (x1, x2) (amap_keep hp1.pages rfl) hx
  have L2 := poolLook (W1.alloc (.cells #[.string ⟨#[]⟩, .int .i64 0] 106)).drew mb M (x1, x2) (amap_keep hp1.pages (hba.block mb (amap_lt hp1.pages))) hx
  rw [hk] at L1 L2
  have dp1 := loadPl_at (w := W1.drew) hg1 rfl
  have dp2 := loadPl_at (w := (W1.alloc (.cells #[.string ⟨#[]⟩, .int .i64 0] 106)).drew) ((hba.block _ (lt_of_block hg1)).trans hg1) rfl
  have c1 := cell_at (i := 1) (v := .map (some mb)) hp1.blk rfl
  have c1a := (hba.cell (p := ⟨pb, 1, none⟩) (block_lt_of_cell c1)).trans c1
  obtain ⟨W2, hW2⟩ : ∃ W2, W2 = (W1.alloc (.cells #[.string ⟨#[]⟩, .int .i64 0] 106)).drew.setRow W1.heap.size #[.string d, .int .i64 v] := ⟨_, rfl⟩
  have hz2 : (W1.alloc (.cells #[.string ⟨#[]⟩, .int .i64 0] 106)).drew.heap[W1.heap.size]? = some (.cells #[.string ⟨#[]⟩, .int .i64 0] 106 (0, 0)) := heap_alloc_new W1 _
  have st2 := storeCt_at (cs := #[.string d, .int .i64 v]) hz2 rfl rfl (by simp [Value.oneCell'])
  have hg2 : W2.heap[W1.heap.size]? = some (.cells #[.string d, .int .i64 v] 106 (0, 0)) := by rw [hW2]; exact setRow_heap _ _ _ _ _ _ hz2
  have hb2 : Below W1.heap.size W1 W2 := by rw [hW2]; exact below_setRow (hba.drew) (Nat.le_refl _) _
  rw [← hW2] at st2
  have hp2 := hp1.below hb2
  have hx2 := (hb2.block _ (lt_of_block hg1)).trans hg1
  have c3 := cell_at (i := 3) (v := .int .i64 h) hp2.blk rfl
  have f3 := frozen_of_row _ _ 3 _ _ hp2.blk
  have hpl := lt_of_block hp.blk
  have HP2 := Lib.hid hp2
  have HG2 := Lib.hid hg2
  have HX2 := Lib.hid hx2
  have HB2 := Lib.hid (hb1.trans (hb2.mono hb1.size))
  have hob := hp.ob
  have HS1 := Lib.hid hs1
  have HK := Lib.hid hk
  have hml := amap_lt hp.pages
  have hv1 : ((some (d, v) : Option Ct).map vCt).getD (.agg #[.string ⟨#[]⟩, .int .i64 0]) = .agg #[.string d, .int .i64 v] := rfl
  rw [hv1] at L1 L2
  simp only [Option.isSome_some] at L1 L2
  clear hg1 hb1 hp1 hba hz2 hb2 hp2 hW1 hW2 hk hg2 hx2 hv1 hs1
  go_enter Try.func39, Try.ntmps39
  go_wp2_with fail
  go_region
  all_goals
    obtain ⟨h', hh'⟩ : ∃ h', h' = wrap64 (h + 1) := ⟨_, rfl⟩
    obtain ⟨W3, hW3⟩ : ∃ W3, W3 = W2.setCell ⟨pb, 3, none⟩ (.int .i64 h') := ⟨_, rfl⟩
    have hp3 : PoolAt W3 base pb mb oa oc cap h' m M O := by rw [hW3]; exact HP2.out.setH h'
    have hon3 : Only [pb] W2 W3 := by rw [hW3]; exact (Only.refl _ W2).setCell (Or.inl (by simp)) _
    have hx3 := hon3.heap HX2.out (by simp; omega)
    have hg3 := hon3.heap HG2.out (by simp; have := HS1.out; omega)
    have d3 := loadPl_at hx3 rfl
    have e3 := loadCt_at hg3 rfl
    have HU := Lib.hid (use_any W3 base pb mb oa oc cap h' m M O (x1, x2) (d, v) hp3 hl hx)
    have HX3 := Lib.hid hx3
    have HG3 := Lib.hid hg3
    have HON3 := Lib.hid (show Only [pb] w W3 from (Only.of_below HB2.out).trans hon3)
    rw [hW3, hh'] at d3 e3
    have HW3 := Lib.hid hW3
    have HH := Lib.hid hh'
    clear hp3 hon3 hx3 hg3 hW3 hh'
    go_wp2_with fail
    rw [← HH.out, ← HW3.out]
    refine HU.out.mono ?_
    rintro e w5 ⟨rfl, oa', oc', M', hp5, hk5, ho5, hq5⟩
    have hob3 : W1.heap.size ∉ [pb, mb, obOf W3 oa] := by
      have := HS1.out
      simp only [List.mem_cons, List.not_mem_nil, or_false, not_or]
      refine ⟨by omega, by omega, ?_⟩
      cases oa with
      | none =>
        have := lt_of_block HG3.out
        simp only [obOf]; omega
      | some q =>
        have h1 := hob.2.2.resolve_left (by simp)
        simp only [obOf] at h1 ⊢
        omega
    have hg5 := ho5.heap HG3.out hob3
    have z0 := cell_at (i := 0) (v := .string d) hg5 rfl
    have z1 := cell_at (i := 1) (v := .int .i64 v) hg5 rfl
    have hobe : ∀ i, i = obOf W3 oa → i = obOf w oa ∨ w.heap.size ≤ i := fun i hi => by
      cases oa with
      | none => exact Or.inr (by rw [hi]; simp only [obOf]; have := HON3.out.size; omega)
      | some q => exact Or.inl hi
    have HF := Lib.hid (show (∀ k, alook M' k = alook M k) ∧ Only [pb, mb, obOf w oa] w w5 ∧ (∀ q, oa' = some q → q.block = obOf w oa ∨ w.heap.size ≤ q.block) from by
      refine ⟨fun k => ?_, ?_, fun q hq => ?_⟩
      · rw [hk5 k]
        by_cases e : ((x1 : Int), (x2 : Int)) = k
        · rw [if_pos e, ← e, HK.out]
        · rw [if_neg e]
      · refine (HON3.out.mono (fun k hk _ => by obtain rfl := List.mem_singleton.1 hk; simp)).then ho5 (fun i hi => ?_)
        simp only [List.mem_cons, List.not_mem_nil, or_false] at hi ⊢
        rcases hi with rfl | rfl | hi
        · exact Or.inl (Or.inl rfl)
        · exact Or.inl (Or.inr (Or.inl rfl))
        · rcases hobe i hi with e | e
          · exact Or.inl (Or.inr (Or.inr e))
          · exact Or.inr e
      · rcases hq5 q hq with e | e
        · exact hobe _ e
        · exact Or.inr (Nat.le_trans HON3.out.size e))
    have HP5 := Lib.hid hp5
    have HFD := Lib.hid (show (∀ k, alook M' k = alook M k) ∧ Only [pb, mb, obOf w oa] w w5.drew ∧ (∀ q, oa' = some q → q.block = obOf w oa ∨ w.heap.size ≤ q.block) from ⟨HF.out.1, HF.out.2.1.drew, HF.out.2.2⟩)
    have HP5D := Lib.hid (show PoolAt w5.drew base pb mb oa' oc' cap h' m M' _ from hp5.below (Below.refl _ _).drew)
    clear hp5 hk5 ho5 hq5 hg5 hob3 hobe d3 e3
    go_wp2_with fail
    go_region
    go_wp2_with fail
    refine ret3 rfl rfl rfl rfl rfl ?_
    first | exact ⟨rfl, h', oa', oc', M', HP5D.out, HFD.out.1, HFD.out.2.1, HFD.out.2.2⟩ | exact ⟨rfl, h', oa', oc', M', HP5.out, HF.out.1, HF.out.2.1, HF.out.2.2⟩

end Go.Proofs.Ytbocefnfhnnbjaa

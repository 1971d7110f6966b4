/-
  Walks of the directory: New, version, Register, Valid. No condition.
-/
import Derived.Test.YtbocefnfhnnbjaaKeys
import Derived.StillTailTactics
namespace Go.Proofs.Ytbocefnfhnnbjaa
open Go.RowKit Go.Sort

def vInt (n : Int) : Value := .int .i64 n
def vUnit (_ : Unit) : Value := .bool true

/-- A directory: its block, its three maps. -/
structure Dir (w : World) (db rb cb gb : Nat) (c : Int) (R : List (Int × Int)) (C : List ((Int × Int) × Int)) (G : List ((Int × Int × Int) × Unit)) : Prop where
  blk : w.heap[db]? = some (.cells #[.int .i64 c, .map (some rb), .map (some cb), .map (some gb)] 73 (0, 0))
  ren : amap w rb kInt vInt I64 R
  cha : amap w cb kPlace vInt okP C
  reg : amap w gb kReg vUnit okR G
  rc : rb ≠ cb
  rg : rb ≠ gb
  cg : cb ≠ gb
theorem Dir.keep {w w' : World} {db rb cb gb : Nat} {c R C G} (h : Dir w db rb cb gb c R C G) (hb : ∀ k, k < w.heap.size → w'.heap[k]? = w.heap[k]?) : Dir w' db rb cb gb c R C G :=
  ⟨(hb _ (lt_of_block h.blk)).trans h.blk, amap_keep h.ren (hb _ (amap_lt h.ren)), amap_keep h.cha (hb _ (amap_lt h.cha)), amap_keep h.reg (hb _ (amap_lt h.reg)), h.rc, h.rg, h.cg⟩
theorem Dir.below {w w' : World} {db rb cb gb : Nat} {c R C G} (h : Dir w db rb cb gb c R C G) (hb : Below w.heap.size w w') : Dir w' db rb cb gb c R C G := h.keep hb.block

set_option maxHeartbeats 400000 in
theorem new_any (w : World) :
    Calls Try.prog 10 #[] w fun e w' => e = .returned (.pointer (some ⟨w.heap.size + 3, 0, none⟩)) ∧ Dir w' (w.heap.size + 3) w.heap.size (w.heap.size + 1) (w.heap.size + 2) 0 [] [] [] ∧ Below w.heap.size w w' ∧ w'.heap.size = w.heap.size + 4 := by
  have hmm := @run_makeMap Try.prog
  go_enter Try.func10, Try.ntmps10
  go_wp2
  go_ret
  have m1 : amap (w.alloc (.map #[] 0)) w.heap.size kInt vInt I64 [] := amap_new w _ _ _
  have m2 : amap ((w.alloc (.map #[] 0)).alloc (.map #[] 0)) (w.heap.size + 1) kPlace vInt okP [] := by have := amap_new (w.alloc (.map #[] 0)) kPlace vInt okP; simpa using this
  have m3 : amap (((w.alloc (.map #[] 0)).alloc (.map #[] 0)).alloc (.map #[] 0)) (w.heap.size + 2) kReg vUnit okR [] := by have := amap_new ((w.alloc (.map #[] 0)).alloc (.map #[] 0)) kReg vUnit okR; simpa using this
  refine ⟨rfl, ⟨?_, ?_, ?_, ?_, by omega, by omega, by omega⟩, (((((Below.refl _ _).alloc (by simp) _).alloc (by simp) _).alloc (by simp; omega) _).alloc (by simp; omega) _), by simp⟩
  · have := heap_alloc_new (((w.alloc (.map #[] 0)).alloc (.map #[] 0)).alloc (.map #[] 0)) (Obj.cells #[Value.int IntKind.i64 0, Value.map (some w.heap.size), Value.map (some (w.heap.size + 1)), Value.map (some (w.heap.size + 2))] 73)
    simpa using this
  · refine amap_keep m1 ?_
    rw [halloc _ _ (by simp; omega), halloc _ _ (by simp; omega), halloc _ _ (by simp)]
  · refine amap_keep m2 ?_
    rw [halloc _ _ (by simp), halloc _ _ (by simp)]
  · refine amap_keep m3 ?_
    rw [halloc _ _ (by simp)]

def verOf (R : List (Int × Int)) (C : List ((Int × Int) × Int)) (id pg : Int) : Int := if (alook R id).getD 0 < (alook C (id, pg)).getD 0 then (alook C (id, pg)).getD 0 else (alook R id).getD 0

theorem zero3 (w : World) : (zeroValue 3).run Try.prog w = .ok (.int .i64 0) w := by kernel_rfl
theorem zero4 (w : World) : (zeroValue 4).run Try.prog w = .ok (.bool false) w := by kernel_rfl

theorem look_int {m : List (Int × Int)} {k : Int} : ((alook m k).map vInt).getD (.int .i64 0) = .int .i64 ((alook m k).getD 0) := by cases alook m k <;> rfl

theorem look69 (w : World) (rb : Nat) (R : List (Int × Int)) (id : Int) (h : amap w rb kInt vInt I64 R) (hi : I64 id) :
    (Instr.lookup 69 (.map (some rb)) (.int .i64 id) false).run Try.prog w = .ok (.int .i64 ((alook R id).getD 0)) w := by
  have hz := zero3 w
  have ht : Try.prog.underlying 69 = some (.map 3 3) := Try.underlying69
  have := amap_lookup (T := 69) (E := 3) (K := 3) (kv := kInt) (vv := vInt) (P := Try.prog) keyInt ht h hi hz
  rw [look_int] at this; exact this
theorem look70 (w : World) (cb : Nat) (C : List ((Int × Int) × Int)) (id pg : Int) (h : amap w cb kPlace vInt okP C) (h1 : I64 id) (h2 : I64 pg) :
    (Instr.lookup 70 (.map (some cb)) (.agg #[.int .i64 id, .int .i64 pg]) false).run Try.prog w = .ok (.int .i64 ((alook C (id, pg)).getD 0)) w := by
  have hz := zero3 w
  have ht : Try.prog.underlying 70 = some (.map 78 3) := Try.underlying70
  have := amap_lookup (T := 70) (E := 3) (K := 78) (kv := kPlace) (vv := vInt) (P := Try.prog) keyPlace ht h (k := (id, pg)) ⟨h1, h2⟩ hz
  have e : ((alook C (id, pg)).map vInt).getD (.int .i64 0) = .int .i64 ((alook C (id, pg)).getD 0) := by cases alook C (id, pg) <;> rfl
  rw [e] at this; exact this
theorem look71 (w : World) (gb : Nat) (G : List ((Int × Int × Int) × Unit)) (s id pg : Int) (h : amap w gb kReg vUnit okR G) (h0 : I64 s) (h1 : I64 id) (h2 : I64 pg) :
    (Instr.lookup 71 (.map (some gb)) (.agg #[.int .i64 s, .int .i64 id, .int .i64 pg]) false).run Try.prog w = .ok (.bool (alook G (s, id, pg)).isSome) w := by
  have hz := zero4 w
  have ht : Try.prog.underlying 71 = some (.map 80 4) := Try.underlying71
  have := amap_lookup (T := 71) (E := 4) (K := 80) (kv := kReg) (vv := vUnit) (P := Try.prog) keyReg ht h (k := (s, id, pg)) ⟨h0, h1, h2⟩ hz
  have e : ((alook G (s, id, pg)).map vUnit).getD (.bool false) = .bool (alook G (s, id, pg)).isSome := by cases alook G (s, id, pg) <;> rfl
  rw [e] at this; exact this

set_option maxHeartbeats 400000 in
theorem version_any (w : World) (db rb cb gb : Nat) (c : Int) (R C G) (id pg : Int) (h : Dir w db rb cb gb c R C G) (h1 : I64 id) (h2 : I64 pg) :
    Calls Try.prog 29 #[.pointer (some ⟨db, 0, none⟩), .agg #[.int .i64 id, .int .i64 pg]] w fun e w' => e = .returned (.int .i64 (verOf R C id pg)) ∧ Below w.heap.size w w' := by
  have hb0 : Below w.heap.size w (w.alloc (.cells #[.int .i64 id, .int .i64 pg] 78)) := (Below.refl _ _).alloc (by simp) _
  have hd := h.below hb0
  have ha := heap_alloc_new w (.cells #[.int .i64 id, .int .i64 pg] 78)
  go_enter Try.func29, Try.ntmps29
  go_wp2
  generalize w.alloc (.cells #[.int .i64 id, .int .i64 pg] 78) = w1 at hb0 hd ha ⊢
  have L1 : ∀ n, (Instr.lookup 69 (.map (some rb)) (.int .i64 id) false).run Try.prog (w1.drewN n) = .ok (.int .i64 ((alook R id).getD 0)) (w1.drewN n) :=
    fun n => look69 _ _ _ _ (amap_keep hd.ren rfl) h1
  have L2 : ∀ n, (Instr.lookup 70 (.map (some cb)) (.agg #[.int .i64 id, .int .i64 pg]) false).run Try.prog (w1.drewN n) = .ok (.int .i64 ((alook C (id, pg)).getD 0)) (w1.drewN n) :=
    fun n => look70 _ _ _ _ _ (amap_keep hd.cha rfl) h1 h2
  have c1 := cell_at (i := 1) hd.blk rfl
  have c2 := cell_at (i := 2) hd.blk rfl
  have a0 := cell_at (i := 0) ha rfl
  have a1 := cell_at (i := 1) ha rfl
  clear ha
  go_quiet (fail)
  go_wp2
  all_goals
    go_ret
    refine ⟨ret_int ?_, below_drewN hb0 _⟩
    unfold verOf
    first | rw [if_pos (by assumption)] | rw [if_neg (by omega)]

set_option maxHeartbeats 400000 in
theorem valid_any (w : World) (db rb cb gb : Nat) (c : Int) (R C G) (s id pg v : Int) (h : Dir w db rb cb gb c R C G) (h0 : I64 s) (h1 : I64 id) (h2 : I64 pg) :
    Calls Try.prog 20 #[.pointer (some ⟨db, 0, none⟩), .int .i64 s, .int .i64 id, .int .i64 pg, .int .i64 v] w fun e w' =>
      e = .returned (.bool ((alook G (s, id, pg)).isSome && verOf R C id pg == v)) ∧ Below w.heap.size w w' := by
  have hb0 : Below w.heap.size w (w.alloc (.cells #[.int .i64 id, .int .i64 pg] 78)) := (Below.refl _ _).alloc (by simp) _
  have hd := h.below hb0
  have ha := heap_alloc_new w (.cells #[.int .i64 id, .int .i64 pg] 78)
  go_enter Try.func20, Try.ntmps20
  go_wp2
  generalize w.alloc (.cells #[.int .i64 id, .int .i64 pg] 78) = w1 at hb0 hd ha ⊢
  have c3 : ∀ d os, (grow (redrawn w1 d) os).cell? ⟨db, 3, none⟩ = some (.map (some gb)) := fun d os => cell_regrown (cell_at (i := 3) hd.blk rfl) d os
  have a0 : ∀ d os, (grow (redrawn w1 d) os).cell? ⟨w.heap.size, 0, none⟩ = some (.int .i64 id) := fun d os => cell_regrown (cell_at (i := 0) ha rfl) d os
  have a1 : ∀ d os, (grow (redrawn w1 d) os).cell? ⟨w.heap.size, 1, none⟩ = some (.int .i64 pg) := fun d os => cell_regrown (cell_at (i := 1) ha rfl) d os
  have L3 : ∀ d os, (Instr.lookup 71 (.map (some gb)) (.agg #[.int .i64 s, .int .i64 id, .int .i64 pg]) false).run Try.prog (grow (redrawn w1 d) os) = .ok (.bool (alook G (s, id, pg)).isSome) (grow (redrawn w1 d) os) :=
    fun d os => look71 _ _ _ _ _ _ (amap_keep hd.reg ((below_regrown w1 d os).block _ (amap_lt hd.reg))) h0 h1 h2
  clear ha
  refine wp_region_quiet_below (by kernel_rfl) (by kernel_rfl) ?_
  cases hs : (alook G (s, id, pg)).isSome
  all_goals
    rw [hs] at L3
    have HS := Lib.hid hs
    clear hs
    repeat (go_big_quiet_step ((go_at_call 29; exact Calls.regrown_of (version_any _ _ _ _ _ _ _ _ _ _ _ (hd.below (below_regrown _ _ _)) h1 h2))))
    refine wpQuiet_nil ?_
    intro _ hw'
    obtain ⟨⟨dq, osq⟩, hw''⟩ := hw'
    subst hw''
    go_wp2
    go_ret
    exact ⟨ret_bool (by rw [HS.out]; simp), hb0.trans ((below_regrown w1 dq osq).mono hb0.size)⟩

theorem Dir.only {w w' : World} {db rb cb gb : Nat} {c R C G} (h : Dir w db rb cb gb c R C G) {S : List Nat} (ho : Only S w w') (h1 : db ∉ S) (h2 : rb ∉ S) (h3 : cb ∉ S) (h4 : gb ∉ S) : Dir w' db rb cb gb c R C G :=
  ⟨ho.heap h.blk h1, amap_keep h.ren (ho.block _ (amap_lt h.ren) h2), amap_keep h.cha (ho.block _ (amap_lt h.cha) h3), amap_keep h.reg (ho.block _ (amap_lt h.reg) h4), h.rc, h.rg, h.cg⟩

theorem Dir.set_reg {w w' : World} {db rb cb gb : Nat} {c R C G G'} (h : Dir w db rb cb gb c R C G) (hm : amap w' gb kReg vUnit okR G') (hg : w.grownBy w' (some gb)) : Dir w' db rb cb gb c R C G' := by
  have hne : ∀ k, k ≠ gb → some k ≠ some gb := fun k hk e => hk (Option.some.inj e)
  exact ⟨(hg.block _ (lt_of_block h.blk) (hne _ (amap_ne_cells h.reg h.blk))).trans h.blk, amap_keep h.ren (hg.block _ (amap_lt h.ren) (hne _ h.rg)), amap_keep h.cha (hg.block _ (amap_lt h.cha) (hne _ h.cg)), hm, h.rc, h.rg, h.cg⟩
theorem Dir.set_cha {w w' : World} {db rb cb gb : Nat} {c R C G C'} (h : Dir w db rb cb gb c R C G) (hm : amap w' cb kPlace vInt okP C') (hg : w.grownBy w' (some cb)) : Dir w' db rb cb gb c R C' G := by
  have hne : ∀ k, k ≠ cb → some k ≠ some cb := fun k hk e => hk (Option.some.inj e)
  exact ⟨(hg.block _ (lt_of_block h.blk) (hne _ (amap_ne_cells h.cha h.blk))).trans h.blk, amap_keep h.ren (hg.block _ (amap_lt h.ren) (hne _ h.rc)), hm, amap_keep h.reg (hg.block _ (amap_lt h.reg) (hne _ (Ne.symm h.cg))), h.rc, h.rg, h.cg⟩
theorem Dir.set_ren {w w' : World} {db rb cb gb : Nat} {c R C G R'} (h : Dir w db rb cb gb c R C G) (hm : amap w' rb kInt vInt I64 R') (hg : w.grownBy w' (some rb)) : Dir w' db rb cb gb c R' C G := by
  have hne : ∀ k, k ≠ rb → some k ≠ some rb := fun k hk e => hk (Option.some.inj e)
  exact ⟨(hg.block _ (lt_of_block h.blk) (hne _ (amap_ne_cells h.ren h.blk))).trans h.blk, hm, amap_keep h.cha (hg.block _ (amap_lt h.cha) (hne _ (Ne.symm h.rc))), amap_keep h.reg (hg.block _ (amap_lt h.reg) (hne _ (Ne.symm h.rg))), h.rc, h.rg, h.cg⟩

set_option maxHeartbeats 400000 in
set_option maxRecDepth 100000 in
theorem register_any (w : World) (db rb cb gb : Nat) (c : Int) (R C G) (s id pg : Int) (h : Dir w db rb cb gb c R C G) (h0 : I64 s) (h1 : I64 id) (h2 : I64 pg) :
    Calls Try.prog 12 #[.pointer (some ⟨db, 0, none⟩), .int .i64 s, .int .i64 id, .int .i64 pg] w fun e w' =>
      e = .returned (.int .i64 (verOf R C id pg)) ∧ Dir w' db rb cb gb c R C (aset G (s, id, pg) ()) ∧ Only [gb] w w' := by
  have hb0 : Below w.heap.size w (w.alloc (.cells #[.int .i64 id, .int .i64 pg] 78)) := (Below.refl _ _).alloc (by simp) _
  have hd := h.below hb0
  have ha := heap_alloc_new w (.cells #[.int .i64 id, .int .i64 pg] 78)
  go_enter Try.func12, Try.ntmps12
  go_wp2
  generalize w.alloc (.cells #[.int .i64 id, .int .i64 pg] 78) = w1 at hb0 hd ha ⊢
  have c3 : w1.cell? ⟨db, 3, none⟩ = some (.map (some gb)) := cell_at (i := 3) hd.blk rfl
  have a0 : w1.cell? ⟨w.heap.size, 0, none⟩ = some (.int .i64 id) := cell_at (i := 0) ha rfl
  have a1 : w1.cell? ⟨w.heap.size, 1, none⟩ = some (.int .i64 pg) := cell_at (i := 1) ha rfl
  go_still_tail 7, (by kernel_rfl)
  refine wpList_aupdate rfl _ _ _ rfl keyReg Try.underlying71 (amap_keep hd.reg rfl) rfl (s, id, pg) rfl ⟨h0, h1, h2⟩ () rfl ?_
  intro w2 hm2 hgr hsz
  have hd2 : Dir w2 db rb cb gb c R C (aset G (s, id, pg) ()) := Dir.set_reg (hd.keep (w' := w1.drew) (fun _ _ => rfl)) hm2 hgr
  have ho2 : Only [gb] w w2 := (Only.of_below hb0).drew.grown hgr (fun k hk => by simp at hk; subst hk; simp)
  have ha2 : w2.heap[w.heap.size]? = some (.cells #[.int .i64 id, .int .i64 pg] 78) := (hgr.block _ (lt_of_block ha) (fun e => amap_ne_cells hd.reg ha (Option.some.inj e))).trans ha
  have b0 : w2.cell? ⟨w.heap.size, 0, none⟩ = some (.int .i64 id) := cell_at (i := 0) ha2 rfl
  have b1 : w2.cell? ⟨w.heap.size, 1, none⟩ = some (.int .i64 pg) := cell_at (i := 1) ha2 rfl
  clear ha2
  clear hm2 hgr hsz a0 a1 c3 ha hd hb0
  go_wp2_with (go_at_call 29; refine (version_any _ _ _ _ _ _ _ _ _ _ _ hd2 h1 h2).mono ?_; rintro e w3 ⟨rfl, hb3⟩)
  go_ret
  exact ⟨rfl, hd2.below hb3, ho2.step_below hb3⟩

end Go.Proofs.Ytbocefnfhnnbjaa

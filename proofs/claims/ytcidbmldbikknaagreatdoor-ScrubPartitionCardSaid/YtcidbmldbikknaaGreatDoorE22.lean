/-
  Plain: counting tracks; what a table's check holds while it counts. No condition.
-/
import Derived.Test.YtcidbmldbikknaaGreatDoorE20
import Derived.Test.YtcidbmldbikknaaGreatDoorE21
import Derived.Test.YtcidbmldbikknaaGreatDoorMap
import Derived.Test.YtcidbmldbikknaaGreatDoorE10
import Derived.Test.YtcidbmldbikknaaGreatDoorE17
namespace Go.Proofs.YtcidbmldbikknaaGreatDoor
open Go.RowKit Go.Sort

/-- Of n numbers from lo on, how many fulfil p. -/
def cntB (p : Nat → Bool) (lo n : Nat) : Nat := ((List.range' lo n).filter p).length
theorem cntB_zero (p : Nat → Bool) (lo : Nat) : cntB p lo 0 = 0 := rfl
theorem cntB_succ (p : Nat → Bool) (lo n : Nat) : cntB p lo (n + 1) = cntB p lo n + (if p (lo + n) = true then 1 else 0) := by
  unfold cntB
  rw [List.range'_concat, List.filter_append, List.length_append, Nat.one_mul]
  by_cases h : p (lo + n) = true <;> simp [h]
theorem cntB_le (p : Nat → Bool) (lo n : Nat) : cntB p lo n ≤ n := by
  unfold cntB
  exact Nat.le_trans (List.length_filter_le _ _) (by simp)
def isOwn (l : List Lab) (i : Nat) : Bool := (ownP l 0 (i : Int)).isSome
def usedN (tr : Int) (l : List Lab) : Nat := cntB (isOwn l) (ttP tr).toNat ((trP tr).toNat - (ttP tr).toNat)
def freeN (tr : Int) (l : List Lab) : Nat := cntB (fun i => !isOwn l i) (ttP tr).toNat ((trP tr).toNat - (ttP tr).toNat)
/-- The references of units. -/
def tentR : List Rn → List Rn
  | [] => []
  | r :: l => if r.2 = 0 then tentR l else r :: tentR l
def tentP (l : List Lab) : List Rn := tentR (refsP l)
theorem tentR_len : ∀ l : List Rn, (tentR l).length ≤ l.length
  | [] => by simp [tentR]
  | r :: l => by
    have := tentR_len l
    unfold tentR
    split <;> simp <;> omega
/-- The tracks of all labels, one after the other. -/
def allT : List Lab → List Nat
  | [] => []
  | x :: l => seqP x.ext ++ allT l
theorem allT_append : ∀ l m : List Lab, allT (l ++ m) = allT l ++ allT m
  | [], _ => rfl
  | x :: l, m => by rw [List.cons_append, allT, allT, allT_append l m, List.append_assoc]
theorem seqP_append : ∀ l m : List Rn, seqP (l ++ m) = seqP l ++ seqP m
  | [], _ => rfl
  | x :: l, m => by rw [List.cons_append, seqP, seqP, seqP_append l m, List.append_assoc]
theorem allT_snoc (l : List Lab) (j : Nat) (h : j < l.length) : allT (l.take (j + 1)) = allT (l.take j) ++ seqP l[j].ext := by
  rw [take_snoc' l j h, allT_append]; simp [allT]
theorem seqP_snoc (l : List Rn) (j : Nat) (h : j < l.length) : seqP (l.take (j + 1)) = seqP (l.take j) ++ List.range' (clipP l[j]).1 (clipP l[j]).2 := by
  rw [take_snoc' l j h, seqP_append]; simp [seqP]
theorem seqP_one (r : Rn) : seqP [r] = List.range' (clipP r).1 (clipP r).2 := by simp [seqP]
/-- Of the first n numbers, those that occur more than once. -/
def sharedS (ts : List Nat) (n : Nat) : List Nat := (List.range n).filter fun t => decide (1 < ts.count t)
def sharedP (l : List Lab) : List Nat := sharedS (allT l) 128
theorem sharedS_succ (ts : List Nat) (n : Nat) : sharedS ts (n + 1) = sharedS ts n ++ (if 1 < ts.count n then [n] else []) := by
  unfold sharedS
  rw [List.range_succ, List.filter_append]
  by_cases h : 1 < ts.count n <;> simp [h]
theorem sharedS_len (ts : List Nat) (n : Nat) : (sharedS ts n).length ≤ n := by
  unfold sharedS
  exact Nat.le_trans (List.length_filter_le _ _) (by simp)

/-- The map counts the tracks ts; besides it nothing older has turned. -/
structure CtSt (w0 : World) (gm : Nat) (ts : List Nat) (W : World) : Prop where
  only : Only [gm] w0 W
  map : ∃ M : List (Int × Int), amap W gm (Value.int .i64) (Value.int .i64) I64 M ∧ ∀ t : Nat, (alook M (t : Int)).getD 0 = (ts.count t : Int)
theorem CtSt.below {w0 W W' : World} {gm : Nat} {ts : List Nat} (h : CtSt w0 gm ts W) (hb : Below W.heap.size W W') : CtSt w0 gm ts W' := by
  obtain ⟨M, h1, h2⟩ := h.map
  exact ⟨h.only.step_below hb, M, amap_keep h1 (hb.block gm (amap_lt h1)), h2⟩
theorem zeroI (w : World) : (zeroValue 3).run Tryz.prog w = .ok (.int .i64 0) w := by kernel_rfl
theorem look_int {m : List (Int × Int)} {k : Int} : ((alook m k).map (Value.int .i64)).getD (.int .i64 0) = .int .i64 ((alook m k).getD 0) := by cases alook m k <;> rfl
theorem lookI {w : World} {b : Nat} {M : List (Int × Int)} (h : amap w b (Value.int .i64) (Value.int .i64) I64 M) (k : Int) (hk : I64 k) :
    (Instr.lookup 66 (.map (some b)) (.int .i64 k) false).run Tryz.prog w = .ok (.int .i64 ((alook M k).getD 0)) w := by
  have ht : Tryz.prog.underlying 66 = some (.map 3 3) := Tryz.underlying66
  have := amap_lookup (T := 66) (E := 3) (K := 3) (kv := Value.int .i64) (vv := Value.int .i64) (P := Tryz.prog) keyInt ht h hk (zeroI w)
  rw [look_int] at this; exact this
theorem ct_count {M : List (Int × Int)} {ts : List Nat} (h : ∀ t : Nat, (alook M (t : Int)).getD 0 = (ts.count t : Int)) (k : Nat) :
    ∀ t : Nat, (alook (aset M (k : Int) ((ts.count k : Int) + 1)) (t : Int)).getD 0 = ((ts ++ [k]).count t : Int) := by
  intro t
  rw [alook_aset, List.count_append]
  by_cases hk : (k : Int) = (t : Int)
  · obtain rfl : k = t := by omega
    rw [if_pos hk]; simp
  · rw [if_neg hk, h t]
    have : List.count t [k] = 0 := by
      rw [List.count_eq_zero]; simp; omega
    rw [this]; rfl
theorem CtSt.grown {w0 W W' : World} {gm k : Nat} {ts : List Nat} (h : CtSt w0 gm ts W) {M : List (Int × Int)} (hM : ∀ t : Nat, (alook M (t : Int)).getD 0 = (ts.count t : Int))
    (h1 : amap W' gm (Value.int .i64) (Value.int .i64) I64 (aset M (k : Int) ((ts.count k : Int) + 1))) (hg : W.grownBy W' (some gm)) : CtSt w0 gm (ts ++ [k]) W' :=
  ⟨h.only.grown hg (fun q hq => by cases hq; exact Or.inl (by simp)), _, h1, ct_count hM k⟩

theorem info_sc : (Tryz.prog.info? 29).map (·.size) = some 5 := by kernel_rfl
/-- A result, loaded and stored whole. -/
def loadSc (p : Addr) : Sem Value := loadVar 29 p
theorem loadSc_down (p : Addr) : loadVar 29 p = loadSc p := rfl
theorem loadSc_at {w : World} {g : Nat} {cs : Array Value} {t : TypeId} {fr : Nat × Nat} (hg : w.heap[g]? = some (.cells cs t fr)) (hi : cs.size = 5) : (loadSc ⟨g, 0, none⟩).run Tryz.prog w = .ok (.agg cs) w :=
  run_loadVar_row (P := Tryz.prog) w g t 29 cs fr _ hg Tryz.underlying29 rfl (by rw [info_sc, hi])
def storeSc (p : Addr) (v : Value) : Sem Unit := storeVar 29 p v
theorem storeSc_down (p : Addr) (v : Value) : storeVar 29 p v = storeSc p v := rfl
theorem storeSc_at {w : World} {g : Nat} {cs : Array Value} {t : TypeId} {old : Array Value} (hg : w.heap[g]? = some (.cells old t (0, 0))) (hi : cs.size = 5) (ho : old.size = cs.size) (h1 : cs.all (·.oneCell') = true) : (storeSc ⟨g, 0, none⟩ (.agg cs)).run Tryz.prog w = .ok () (w.setRow g cs) :=
  run_storeVar_row (P := Tryz.prog) w g t 29 old cs hg (by rw [info_sc, hi]) ho h1
theorem ret_sc {fn : Func} {R : Ending → World → Prop} {a : Act} {w : World} {p : Tmp} {rb : Nat} {cs : Array Value} (hf : fn.results = #[.cell p 29]) (hp : a.tmps.getD p undef = .pointer (some ⟨rb, 0, none⟩)) (hd : a.defers = [])
    (hi : cs.size = 5) (hg : w.heap[rb]? = some (.cells cs 29 (0, 0))) (hR : R (.returned (.agg cs)) w) : bodyPost Tryz.prog fn R .ret a w :=
  bodyPost_ret (results_cell_row hf _ _ rb 29 _ (0, 0) _ hp hg Tryz.underlying29 rfl (by rw [info_sc, hi])) hd hR
/-- A reference, loaded whole. -/
def loadRef (p : Addr) : Sem Value := loadVar 40 p
theorem loadRef_down (p : Addr) : loadVar 40 p = loadRef p := rfl
theorem loadRef_at {w : World} {g : Nat} {cs : Array Value} {t : TypeId} {fr : Nat × Nat} (hg : w.heap[g]? = some (.cells cs t fr)) (hi : cs.size = 2) : (loadRef ⟨g, 0, none⟩).run Tryz.prog w = .ok (.agg cs) w :=
  run_loadVar_row (P := Tryz.prog) w g t 40 cs fr _ hg Tryz.underlying40 rfl (by rw [info_ref, hi])
theorem loadRef_mid {w : World} {b o : Nat} {x y : Int} (h0 : w.cell? ⟨b, o, none⟩ = some (.int .i64 x)) (h1 : w.cell? ⟨b, o + 1, none⟩ = some (.int .i64 y)) : (loadRef ⟨b, o, none⟩).run Tryz.prog w = .ok (.agg #[.int .i64 x, .int .i64 y]) w :=
  run_loadVar_mid (P := Tryz.prog) w b o 40 [.int .i64 x, .int .i64 y] _ (fun j v hj => by
    match j with
    | 0 => simp at hj; subst hj; exact h0
    | 1 => simp at hj; subst hj; exact h1
    | j + 2 => simp at hj) Tryz.underlying40 rfl (by rw [info_ref]; rfl)

theorem runs_lit (W : World) (p q : Int) (h : okRn (p, q)) (t : TypeId) : Runs (W.alloc (.cells #[.int .i64 p, .int .i64 q] t)) (W.alloc (.cells #[.int .i64 p, .int .i64 q] t)).heap.size (some ⟨W.heap.size, 0, none⟩) [(p, q)] := by
  have hg := heap_alloc_new W (.cells #[.int .i64 p, .int .i64 q] t)
  refine ⟨fun _ => ⟨W.heap.size, 0, rfl, lt_of_block hg, fun i hi => ?_⟩, fun r hr => ?_⟩
  · obtain rfl : i = 0 := by simpa using hi
    exact ⟨cell_at hg rfl, cell_at hg rfl⟩
  · obtain rfl : r = (p, q) := by simpa using hr
    exact h
theorem size_lit (W : World) (p q : Int) (h : okRn (p, q)) : Calls Tryz.prog 21 #[.slice (some ⟨W.heap.size, 0, none⟩) 1 1] (W.alloc (.cells #[.int .i64 p, .int .i64 q] 68)) fun e w' =>
    e = .returned (.int .i64 (clipP (p, q)).2) ∧ Below (W.alloc (.cells #[.int .i64 p, .int .i64 q] 68)).heap.size (W.alloc (.cells #[.int .i64 p, .int .i64 q] 68)) w' := by
  have h1 := size_any (W.alloc (.cells #[.int .i64 p, .int .i64 q] 68)) _ (some ⟨W.heap.size, 0, none⟩) 1 [(p, q)] (runs_lit W p q h _) (Nat.le_refl _) (by simp)
  rw [seqP_one, List.length_range'] at h1
  exact h1
theorem at_lit (W : World) (p q : Int) (h : okRn (p, q)) (m : Nat) (hm : m < (clipP (p, q)).2) : Calls Tryz.prog 33 #[.slice (some ⟨W.heap.size, 0, none⟩) 1 1, .int .i64 m] (W.alloc (.cells #[.int .i64 p, .int .i64 q] 68)) fun e w' =>
    e = .returned (.tuple #[.int .i64 ((clipP (p, q)).1 + m : Nat), .bool true]) ∧ Below (W.alloc (.cells #[.int .i64 p, .int .i64 q] 68)).heap.size (W.alloc (.cells #[.int .i64 p, .int .i64 q] 68)) w' := by
  have hc := clipP_le (p, q)
  have h1 := at_any (W.alloc (.cells #[.int .i64 p, .int .i64 q] 68)) _ (some ⟨W.heap.size, 0, none⟩) 1 [(p, q)] m (runs_lit W p q h _) (Nat.le_refl _) (by simp) (by omega)
  rw [seqP_one, List.getElem?_range' hm, Nat.one_mul] at h1
  exact h1

end Go.Proofs.YtcidbmldbikknaaGreatDoor

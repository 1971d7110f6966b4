/-
  Walks: the numbers of the frames that were found, in order. Condition: the map of frames in memory.
  What Salvage holds: frames that are found, and pairs behind a first item. No condition.
  Walk: what is intact of an archive. Condition: at most 900000 bytes.
  Walks: Decode, Dump and Restore. Conditions: strings and contents that are not too long, the laid table of segments' codes.
  Walks: Dump and Restore. Conditions: strings and contents that are not too long, the laid table of segments' codes.
-/
import Derived.Test.YtckpepfkfjdnhaaGreatDoorQD2
import Derived.Test.YtckpepfkfjdnhaaGreatDoorIter
import Derived.Test.YtckpepfkfjdnhaaGreatDoorQQ
import Derived.Test.YtckpepfkfjdnhaaGreatDoorQZ
namespace Go.Proofs.YtckpepfkfjdnhaaGreatDoor

section
open Go.RowKit Go.Sort Go.Maps Go.Shelf
open Go (encZ intKeys leI mergeSort_of_perm_i)

theorem leN_map (l : List Nat) : (l.mergeSort (fun a b => decide (a ≤ b))).map (fun n => ((n : Nat) : Int)) = (l.map fun n => ((n : Nat) : Int)).mergeSort leI :=
 List.map_mergeSort (fun a _ b _ => by rw [Bool.eq_iff_iff]; simp [leI])
/-- The map of frames as the kit's laws see it: what the frames are is not looked at. -/
def blindR (H : Type) : Value → Option (DataW H × List MemPlace) := fun _ => some (.nil, [])
theorem own_of_fm {w : World} {b : Nat} {M : Fm} (h : FmAt w b M) (hM : M.length ≤ 100000) : ∃ D0 : DataW Unit, w.ownsMap Tryz.prog 3 (blindR Unit) b M.length D0 ∧ (intKeys D0).Perm ((keysF M).map fun n => ((n : Nat) : Int)) ∧ Maps.size D0 = M.length := by
 obtain ⟨es, clock, hb, hes, hok, hnd, hbc, hbn⟩ := h.map
 have hlen : es.toList.length = M.length := by
   have := congrArg List.length hes
   simpa [fmM] using this
 have hk : es.toList.map (·.key) = M.map fun x => Value.int .i64 ((x.1 : Nat) : Int) := by
   have := congrArg (List.map Prod.fst) hes
   simp only [List.map_map, fmM, Function.comp_def] at this
   exact this
 have hkey : ∀ x ∈ es.toList, ∃ n : Nat, x.key = .int .i64 (n : Int) ∧ n ≤ 65535 := fun x hx => by
   have h1 : x.key ∈ es.toList.map (·.key) := List.mem_map.2 ⟨x, hx, rfl⟩
   rw [hk, List.mem_map] at h1
   obtain ⟨y, hy, e⟩ := h1
   exact ⟨y.1, e.symm, (h.keys y hy).1⟩
 have hko : ∀ n : Nat, n ≤ 65535 → Go.keyOf Tryz.prog 3 (Value.int .i64 (n : Int)) = some (Lit.int .i64 (n : Int)) := fun n hn => Maps.keyOf_int_mk uInt (i64_of (by omega) (by omega))
 have hrd : ∀ x ∈ es.toList, ∀ n : Nat, x.key = .int .i64 (n : Int) → n ≤ 65535 → WideElems.rd Tryz.prog 3 (blindR Unit) x = some (.int .i64 (n : Int), .nil) := fun x _ n hn hn2 => by
   unfold WideElems.rd
   rw [hn, hko n hn2]; rfl
 have hst : MapKept.Stamped es clock := ⟨hbc, hbn, by
   rw [hk]
   have : M.map (fun x => Value.int .i64 ((x.1 : Nat) : Int)) = ((fmM M).map Prod.fst).map (Value.int .i64) := by simp only [fmM, List.map_map, Function.comp_def]
   rw [this]
   exact hnd.map _ (fun a c hac e => hac (by simpa using e))⟩
 have hft : WideElems.Fit Tryz.prog 3 (blindR Unit) es clock := ⟨by rw [← Array.length_toList, hlen]; simp only [maxLen]; omega, hst, fun x hx => by
   obtain ⟨n, hn, hn2⟩ := hkey x hx
   exact ⟨_, hrd x hx n hn hn2⟩⟩
 have hrg : es.toList.map (WideElems.rg Tryz.prog 3 (blindR Unit)) = M.map fun x => (Lit.int .i64 ((x.1 : Nat) : Int), (DataW.nil : DataW Unit)) := by
   have h1 : es.toList.map (WideElems.rg Tryz.prog 3 (blindR Unit)) = es.toList.map (fun x => (match x.key with | .int _ a => (Lit.int .i64 a, (DataW.nil : DataW Unit)) | _ => (.bool false, .nil))) := by
     apply List.map_congr_left
     intro x hx
     obtain ⟨n, hn, hn2⟩ := hkey x hx
     unfold WideElems.rg
     rw [hrd x hx n hn hn2, hn]; rfl
   rw [h1]
   have h2 : (fun x : MapEntry => (match x.key with | .int _ a => (Lit.int .i64 a, (DataW.nil : DataW Unit)) | _ => (.bool false, .nil))) = (fun v : Value => (match v with | .int _ a => (Lit.int .i64 a, (DataW.nil : DataW Unit)) | _ => (.bool false, .nil))) ∘ (·.key) := rfl
   rw [h2, ← List.map_map, hk, List.map_map]
   rfl
 refine ⟨.map ((es.toList.map (WideElems.rg Tryz.prog 3 (blindR Unit))).foldr DataW.insert []), ⟨es, clock, hb, hft, by rw [← Array.length_toList, hlen]; exact Nat.le_refl _, rfl⟩, ?_, ?_⟩
 · have hp := (WideShapes.sorted_perm (es.toList.map (WideElems.rg Tryz.prog 3 (blindR Unit)))).map fun p => Go.intOf p.1
   refine hp.trans ?_
   rw [hrg, List.map_map]
   unfold keysF
   rw [List.map_map]
   exact List.Perm.refl _
 · have hp := (WideShapes.sorted_perm (es.toList.map (WideElems.rg Tryz.prog 3 (blindR Unit)))).length_eq
   show List.length _ = _
   rw [hp, List.length_map, hlen]

theorem sortsA (m : Nat) : AnyZI.SortsIn Tryz.prog Tryz.sortedA_ren Fence.wide m :=
 ⟨fun blk off cap ss W hH hblk hsz => callsIn_wide.2 (AnyM.slices_Sort_int Tryz.sortA blk off cap ss W hH hblk hsz),
  fun p cap W => callsIn_wide.2 (AnyM.slices_Sort_int_none Tryz.sortA p cap W)⟩
theorem keys_any (b : Nat) (w : World) : Calls Tryz.prog 155 #[.map (some b)] w fun e w' => e = .returned (.func (.func 195) #[] #[.pointer (some ⟨w.heap.size, 0, none⟩)]) ∧ w' = w.alloc (.cells #[.map (some b)] 197) :=
 (callsIn_wide (n := 6)).1 (AnyZI.keys_in Tryz.keysA Fence.wide 6 trivial rfl (some b) w)
theorem sorted_any (w : World) (g b : Nat) (M : Fm) (hg : w.cell? ⟨g, 0, none⟩ = some (.map (some b))) (h : FmAt w b M) (hM : M.length ≤ 100000) :
   Calls Tryz.prog 154 #[.func (.func 195) #[] #[.pointer (some ⟨g, 0, none⟩)]] w fun e w' => ∃ v, e = .returned v ∧
     w'.ownsRow w.heap.size 3 1 v (sortedF M).length ((sortedF M).map fun n => Value.int .i64 ((n : Nat) : Int)) ∧ Below w.heap.size w w' := by
 obtain ⟨D0, hown, hperm, hsize⟩ := own_of_fm h hM
 have hseq : SeqGives Fence.wide 2 Tryz.prog 195 #[.pointer (some ⟨g, 0, none⟩)] encZ (fun ss => ss.Perm (intKeys D0)) (Maps.size D0) w :=
   AnyZI.keys_gives (ρ := Tryz.keysA_ren) { Tryz.keysA with } Fence.wide _ trivial rfl (by omega) g b _ D0 w (block_lt_of_cell hg) hg hown
 have cS := AnyZI.sorted_in Tryz.sortedA Fence.wide 5 trivial trivial trivial trivial rfl (by omega) (sortsA _) (enters_of Tryz.func194 (by kernel_rfl) rfl) 195 #[.pointer (some ⟨g, 0, none⟩)] trivial
   (enters_of Tryz.func195 (by kernel_rfl) rfl) _ _ (by rw [hsize]; simp only [maxLen]; omega) (by rw [hsize]; omega) w hseq
 refine ((callsIn_wide (n := 5)).1 cS).mono ?_
 rintro e w' ⟨v, ss, rfl, hS, hrow, _, hb⟩
 refine ⟨v, rfl, ?_, hb⟩
 have hp : ss.Perm ((keysF M).map fun n => ((n : Nat) : Int)) := hS.trans hperm
 have e1 : ss.mergeSort (fun x y => decide (x ≤ y)) = (sortedF M).map fun n => ((n : Nat) : Int) := by
   rw [mergeSort_of_perm_i hp]
   unfold sortedF
   rw [leN_map]
 have e2 : ss.length = (sortedF M).length := by
   have := congrArg List.length e1
   rw [List.length_mergeSort, List.length_map] at this
   exact this
 rw [e1, e2, List.map_map] at hrow
 exact hrow
end

section
open Go.RowKit Go.Sort

theorem readF_ok {s : By} {x : Nat × Fr} (h : readF s = some x) : x.1 ≤ 65535 ∧ x.2.2.2.length ≤ 56 := by
 unfold readF at h
 split at h
 · rename_i hc
   obtain rfl := Option.some.inj h
   have h0 : ∀ i, b0 s i ≤ 255 := fun i => by unfold b0; have := (s.getD i 0).toNat_lt; omega
   have h1 := h0 0
   have h2 := h0 1
   refine ⟨by simp only; omega, ?_⟩
   simp only [List.length_take]; omega
 · cases h
theorem addF_none {M : Fm} {c : By} (h : readF c = none) : addF M c = M := by unfold addF; rw [h]
theorem addF_there {M : Fm} {c : By} {x : Nat × Fr} (h : readF c = some x) (ht : (fget M x.1).isSome = true) : addF M c = M := by unfold addF; rw [h]; simp only [ht, if_true]
theorem addF_new {M : Fm} {c : By} {x : Nat × Fr} (h : readF c = some x) (ht : (fget M x.1).isSome = false) : addF M c = M ++ [x] := by unfold addF; rw [h]; simp only [ht, Bool.false_eq_true, if_false]
theorem framesV_len (s : By) : ∀ j, (framesV s j).length ≤ j
 | 0 => by simp [framesV]
 | j + 1 => by
   have ih := framesV_len s j
   rw [framesV_succ]
   unfold addF
   split
   · split
     · omega
     · rw [List.length_append]; simp; omega
   · omega
theorem fm_new (w : World) : FmAt (w.alloc (.map #[] 0)) w.heap.size [] := ⟨amap_new w _ _ _, fun x hx => by cases hx⟩
theorem fm_set {w : World} {b : Nat} {M : Fm} (h : FmAt w b M) {x : Nat × Fr} (hn : (fget M x.1).isSome = false) (hx : x.1 ≤ 65535 ∧ x.2.2.2.length ≤ 56) :
   ∃ w', (Instr.mapUpdate 197 (.map (some b)) (.int .i64 ((x.1 : Nat) : Int)) (.agg (frC x.2))).run Tryz.prog w = .ok () w' ∧ FmAt w' b (M ++ [x]) ∧ w.grownBy w' (some b) ∧ w'.heap.size = w.heap.size := by
 obtain ⟨w', hr, ha, hg, hs⟩ := amap_update keyInt Tryz.underlying197 h.map (show I64 ((x.1 : Nat) : Int) from i64_of (by omega) (by omega)) x.2
 refine ⟨w', hr, ⟨?_, fun y hy => ?_⟩, hg, hs⟩
 · have e : aset (fmM M) ((x.1 : Nat) : Int) x.2 = fmM (M ++ [x]) := by
     have hno : alook (fmM M) ((x.1 : Nat) : Int) = none := by
       rw [alook_fm]
       cases hf : fget M x.1 with
       | none => rfl
       | some y => rw [hf] at hn; cases hn
     unfold aset
     rw [if_neg (fun h => (alook_none_iff _ _).1 hno ((any_iff _ _).1 h))]
     simp [fmM]
   rw [e] at ha; exact ha
 · rcases List.mem_append.1 hy with hy | hy
   · exact h.keys y hy
   · simp at hy; subst hy; exact hx
/-- Frames of one map are found again in one that has more. -/
theorem keysF_le {M : Fm} (h : ∀ x ∈ M, x.1 ≤ 65535 ∧ x.2.2.2.length ≤ 56) : ∀ n ∈ sortedF M, n ≤ 65535 := by
 intro n hn
 unfold sortedF at hn
 rw [List.mem_mergeSort] at hn
 unfold keysF at hn
 rw [List.mem_map] at hn
 obtain ⟨x, hx, rfl⟩ := hn
 exact (h x hx).1
theorem sortedF_len (M : Fm) : (sortedF M).length = M.length := by unfold sortedF keysF; rw [List.length_mergeSort, List.length_map]

/-- The archive with pairs, as cells. -/
def outC (x : Hd) (v : Value) : Array Value := (conH x).setIfInBounds 22 v
theorem outC_con (x : Hd) (a : Option Addr) (n c : Nat) : outC x (.slice a n c) = conC (restOfHd x) (x.i 1) (x.i 2) (x.i 3) (x.i 4) (x.ap : Int) a n c := rfl
theorem outC_at (x : Hd) (v : Value) : (outC x v)[22]? = some v := rfl
theorem outC_set (x : Hd) (v u : Value) : (outC x v).setIfInBounds 22 u = outC x u := rfl
theorem put_ar (w : World) (x : Hd) : ∃ W, (storeAr ⟨w.heap.size, 0, none⟩ (.agg (conH x))).run Tryz.prog (w.alloc (.cells conZ 82)) = .ok () W ∧ W.heap[w.heap.size]? = some (.cells (outC x (.slice none 0 0)) 82 (0, 0)) ∧ Below w.heap.size w W :=
 have hz := heap_alloc_new w (.cells conZ 82)
 ⟨_, storeAr_at hz rfl rfl one_con, setRow_heap _ _ _ _ _ _ hz, below_setRow (box_below0 w conZ 82) (Nat.le_refl _) _⟩

/-- What Salvage gives back. -/
structure SvRet (w : World) (o : Option (Hd × List Pr)) (e : Ending) (w' : World) : Prop where
 bad : o = none → e = .returned (.tuple #[.agg conZ, .int .i64 0, .int .i64 11])
 ok : ∀ x l, o = some (x, l) → ∃ (a : Option Addr) (c : Nat) (k : Int), e = .returned (.tuple #[.agg (conC (restOfHd x) (x.i 1) (x.i 2) (x.i 3) (x.i 4) (x.ap : Int) a l.length c), .int .i64 k, .int .i64 0]) ∧ Prs w' w'.heap.size a l ∧ l.length ≤ c ∧ c ≤ maxLen ∧ ∀ b off, a = some ⟨b, off, none⟩ → w.heap.size ≤ b
 bel : Below w.heap.size w w'

/-- Pairs out of the first numbers. -/
def pairsJ (M : Fm) (j : Nat) : List Pr := ((sortedF M).take j).filterMap fun n => if n = 0 then none else (itemV M n).bind pairV
theorem pairsJ_all (M : Fm) {j : Nat} (h : (sortedF M).length ≤ j) : pairsJ M j = pairsV M := by unfold pairsJ pairsV; rw [List.take_of_length_le h]
theorem pairsJ_succ (M : Fm) (j : Nat) (h : j < (sortedF M).length) : pairsJ M (j + 1) = pairsJ M j ++ (if (sortedF M)[j] = 0 then none else (itemV M (sortedF M)[j]).bind pairV).toList := by
 unfold pairsJ
 rw [List.take_succ_eq_append_getElem h, List.filterMap_append]
 refine congrArg (List.filterMap _ ((sortedF M).take j) ++ ·) ?_
 simp only [List.filterMap_cons, List.filterMap_nil]
 cases (if (sortedF M)[j] = 0 then none else (itemV M (sortedF M)[j]).bind pairV) <;> rfl
theorem pairsJ_len (M : Fm) (j : Nat) : (pairsJ M j).length ≤ M.length := by
 unfold pairsJ
 refine Nat.le_trans (List.length_filterMap_le _ _) ?_
 rw [List.length_take, sortedF_len]; omega

/-- What the second loop holds. -/
structure Sv2 (W0 W : World) (ob : Nat) (M : Fm) (x : Hd) (j : Nat) (v : Value) : Prop where
 only : Only [ob] W0 W
 out : W.heap[ob]? = some (.cells (outC x v) 82 (0, 0))
 row : PrRow W W0.heap.size v (pairsJ M j)
theorem Sv2.below {W0 W W' : World} {ob : Nat} {M : Fm} {x : Hd} {j : Nat} {v : Value} (h : Sv2 W0 W ob M x j v) (hb : Below W.heap.size W W') : Sv2 W0 W' ob M x j v :=
 ⟨h.only.step_below hb, heap_below hb (lt_of_block h.out) h.out, own_below h.row hb⟩
theorem Sv2.fm {W0 W : World} {ob b : Nat} {M : Fm} {x : Hd} {j : Nat} {v : Value} (h : Sv2 W0 W ob M x j v) (hm : FmAt W0 b M) (hne : b ≠ ob) : FmAt W b M :=
 ⟨amap_keep hm.map (h.only.block b hm.lt (by simpa using hne)), hm.keys⟩
end

section
open Go.RowKit Go.Sort
attribute [local go_sem] ext_take ext_drop

theorem cntR_le (most : Nat) (l : By) (e : Int) : (cntR most l e).1 ≤ most := by
 unfold cntR
 split
 · split
   · simp
   · simp only; omega
 · simp
theorem firstV_n {h : By} {x : Hd} (hx : firstV h = some x) : x.n ≤ 1024 := by
 have hle : (st9 h).1 ≤ 1024 := by unfold st9; exact cntR_le 1024 _ _
 unfold firstV at hx
 generalize st9 h = S9 at hx hle
 generalize (st1 h).1 = a at hx
 generalize (st2 h).1 = b at hx
 generalize (st3 h).1.getD 0 0 = c at hx
 generalize (st4 h).1 = e at hx
 generalize (st5 h).1 = f at hx
 generalize (st6 h).1 = g at hx
 generalize (st7 h).1 = i at hx
 generalize (st8 h).1.getD 0 0 = j at hx
 by_cases hc : S9.2.2 = 0 ∧ S9.2.1 = []
 · rw [if_pos hc] at hx
   obtain rfl := Option.some.inj hx
   exact hle
 · rw [if_neg hc] at hx; cases hx
theorem Sv2.push {W0 W w12 : World} {ob : Nat} {M : Fm} {x : Hd} {j : Nat} {v v8 : Value} {p : Pr} {o : Obj} (h : Sv2 W0 W ob M x j v) (hp : pairsJ M (j + 1) = pairsJ M j ++ [p]) (ho8 : w12.ownsRow W0.heap.size 46 2 v8 ((pairsJ M j).length + 1) (prsF (pairsJ M j) ++ encP p))
   (hg : (W.alloc o).grownBy w12 v.ownBlock) (hlt : ob < W0.heap.size) : w12.heap[ob]? = some (.cells (outC x v) 82 (0, 0)) ∧ Sv2 W0 (w12.setCell ⟨ob, 22, none⟩ v8) ob M x (j + 1) v8 := by
 have hsz := h.only.size
 have h12 : w12.heap[ob]? = some (.cells (outC x v) 82 (0, 0)) :=
   (hg.block ob (by simp; omega) (fun e => by have := row_own h.row e.symm; omega)).trans ((halloc _ _ (by omega)).trans h.out)
 refine ⟨h12, ((h.only.alloc o).grown hg (fun k hk => Or.inr (row_own h.row hk))).setCell (p := ⟨ob, 22, none⟩) (Or.inl (by simp)) _, ?_, ?_⟩
 · have := cell_row_any w12 ob 22 _ _ _ v8 h12
   rw [outC_set] at this; exact this
 · have h1 : PrRow w12 W0.heap.size v8 (pairsJ M (j + 1)) := by
     unfold PrRow
     rw [hp, List.length_append, prsF_append]
     exact ho8
   exact World.ownsRow.kept h1 (row := some ob) ⟨rfl, rfl, rfl, by simp [World.setCell], fun k _ hk => Below.heap_setCell _ _ _ _ (fun e => hk (by simp [e]))⟩ (by
     by_cases hn : v8.ownBlock = some ob
     · have := row_own h1 hn; omega
     · exact Or.inr hn)
theorem ints_of_own {w : World} {base : Nat} {e : TypeId} {v : Value} {K : List Nat} (h : w.ownsRow base e 1 v K.length (K.map fun n => Value.int .i64 ((n : Nat) : Int))) : ∃ a c, v = .slice a K.length c ∧ ∀ i (hi : i < K.length), ∃ sb so, a = some ⟨sb, so, none⟩ ∧ base ≤ sb ∧ sb < w.heap.size ∧ w.cell? ⟨sb, so + i, none⟩ = some (.int .i64 ((K[i] : Nat) : Int)) := by
 rcases h.2 with ⟨rfl, hn⟩ | ⟨g, cap, cur, rfl, hbase, hblk, q1, q2, q3, q4⟩
 · have : K = [] := List.length_eq_zero_iff.1 hn
   subst this
   exact ⟨none, 0, rfl, fun i hi => by simp at hi⟩
 · refine ⟨_, cap, rfl, fun i hi => ⟨g, 0, rfl, hbase, lt_of_block hblk, ?_⟩⟩
   rw [Nat.zero_add, cell_of_row w g i cur e (0, 0) hblk]
   have hi2 : (K.map fun n => Value.int .i64 ((n : Nat) : Int))[i]? = some (.int .i64 ((K[i] : Nat) : Int)) := by simp [hi]
   rw [← q4, List.getElem?_take] at hi2
   split at hi2
   · simpa using hi2
   · simp at hi2
theorem drop_64 (s : By) (j : Nat) : (s.drop (64 * j)).drop 64 = s.drop (64 * (j + 1)) := by rw [List.drop_drop, show 64 * j + 64 = 64 * (j + 1) by omega]

/-- What the first loop holds. -/
structure Sv1 (w W : World) (s : By) (j : Nat) : Prop where
 fm : FmAt W (w.heap.size + 1) (framesV s j)
 res : W.heap[w.heap.size]? = some (.cells conZ 82 (0, 0))
 bel : Below w.heap.size w W
theorem Sv1.below {w W W' : World} {s : By} {j : Nat} (h : Sv1 w W s j) (hb : Below W.heap.size W W') : Sv1 w W' s j :=
 ⟨h.fm.below hb h.fm.lt, heap_below hb (lt_of_block h.res) h.res, h.bel.trans (hb.mono h.bel.size)⟩
theorem sv1_start (w : World) (s : By) : Sv1 w ((w.alloc (.cells conZ 82)).alloc (.map #[] 0)) s 0 := by
 have h0 := fm_new (w.alloc (.cells conZ 82))
 rw [show (w.alloc (.cells conZ 82)).heap.size = w.heap.size + 1 by simp] at h0
 exact ⟨h0, heap_alloc2_old _ _ _, ((Below.refl _ _).alloc (Nat.le_refl _) _).alloc (by simp) _⟩

theorem text_32 (w : World) (g : Nat) (left : By) (err : Int) (h : RdAt w g left err) (hl : left.length ≤ 1000000) :
   Calls Tryz.prog 157 #[.pointer (some ⟨g, 0, none⟩), .int .i64 32] w fun e w' => e = .returned (.string ⟨(textR 32 left err).1.toArray⟩) ∧ RdAt w' g (textR 32 left err).2.1 (textR 32 left err).2.2 ∧ Only [g] w w' := text_read 32 (by omega) w g left err h hl
theorem text_1000 (w : World) (g : Nat) (left : By) (err : Int) (h : RdAt w g left err) (hl : left.length ≤ 1000000) :
   Calls Tryz.prog 157 #[.pointer (some ⟨g, 0, none⟩), .int .i64 1000] w fun e w' => e = .returned (.string ⟨(textR 1000 left err).1.toArray⟩) ∧ RdAt w' g (textR 1000 left err).2.1 (textR 1000 left err).2.2 ∧ Only [g] w w' := text_read 1000 (by omega) w g left err h hl
theorem FmAt.cast {w : World} {b : Nat} {M M' : Fm} (h : FmAt w b M) (e : M' = M) : FmAt w b M' := e ▸ h
section
attribute [local go_sem ↓] loadAr_down storeAr_down storeFr_down
set_option maxRecDepth 100000 in
set_option maxHeartbeats 16000000 in
theorem salvage_any (s : By) (w : World) (hs : s.length ≤ 900000) :
   Calls Tryz.prog 101 #[.string ⟨s.toArray⟩] w fun e w' => SvRet w (salvV s) e w' := by
 have hmm := @run_makeMap Tryz.prog
 obtain ⟨i0, hi0, hz0, hz1, hz2⟩ := info_parts infoPr
 have hR : salvV s = match itemV (framesV s (s.length / 64)) 0 with
   | none => none
   | some h => match firstV h with
     | none => none
     | some x => some (x, pairsV (framesV s (s.length / 64))) := rfl
 have hMl := framesV_len s (s.length / 64)
 generalize salvV s = R at hR ⊢
 have HR := Lib.hid hR
 have HX := Lib.hid (sv1_start w s)
 clear hR
 go_enter Tryz.func101, Tryz.ntmps101
 go_wp2_with fail
 go_loopw [0] (fun t wr => ∃ j : Nat, j ≤ s.length / 64 ∧ t = .string ⟨(s.drop (64 * j)).toArray⟩ ∧ Sv1 w wr s j) (fun t _ => match t with
   | .string x => x.size
   | _ => 0)
 case atStart => exact ⟨0, by omega, by simp, HX.out⟩
 case round =>
   obtain ⟨j, hj, rfl, hS⟩ := hrel
   clear HX
   by_cases hlt : j < s.length / 64
   · have hul : 64 ≤ (s.drop (64 * j)).length := by rw [List.length_drop]; omega
     have hch : chunkF s j = (s.drop (64 * j)).take 64 := rfl
     have HNX := Lib.hid (drop_64 s j)
     have HSU := Lib.hid (framesV_succ s j)
     rw [hch] at HSU
     generalize s.drop (64 * j) = u at hul HNX HSU ⊢
     have hulI : (64 : Int) ≤ (u.length : Int) := by omega
     have HRF := Lib.hid (readframe_any (u.take 64) wr (by rw [List.length_take]; omega))
     have HS := Lib.hid hS
     clear hS hch
     cases hrf : readF (u.take 64) with
     | none =>
       rw [hrf] at HRF
       have HSU2 := Lib.hid (show framesV s (j + 1) = framesV s j by rw [HSU.out, addF_none hrf])
       clear hrf
       simp only [rfV] at HRF
       go_wp2_with fail
       refine HRF.out.mono ?_
       rintro e w2 ⟨rfl, hb2⟩
       have HS2 := Lib.hid (HS.out.below hb2)
       have lk := look_fr HS2.out.fm 0 (by omega)
       rw [show ((0 : Nat) : Int) = 0 from rfl] at lk
       obtain ⟨W3, st, hg3, hb3⟩ := put_fr w2 ((fget (framesV s j) 0).getD (false, false, []))
       have HS3 := Lib.hid (HS2.out.below hb3)
       generalize (fget (framesV s j) 0).getD (false, false, []) = y at lk st
       generalize (fget (framesV s j) 0).isSome = q at lk
       clear hb2 hg3 hb3
       go_wp2_with fail
       go_roundw
       case rel => exact ⟨j + 1, by omega, by rw [HNX.out], HS3.out.fm.cast HSU2.out, HS3.out.res, HS3.out.bel⟩
       case measure => simp [ByteArray.size]; omega
     | some x =>
       have hxk := readF_ok hrf
       rw [hrf] at HRF
       simp only [rfV] at HRF
       cases hth : (fget (framesV s j) x.1).isSome with
       | true =>
         have HSU2 := Lib.hid (show framesV s (j + 1) = framesV s j by rw [HSU.out, addF_there hrf hth])
         clear hrf
         go_wp2_with fail
         refine HRF.out.mono ?_
         rintro e w2 ⟨rfl, hb2⟩
         have HS2 := Lib.hid (HS.out.below hb2)
         have lk := look_fr HS2.out.fm x.1 (by omega)
         rw [hth] at lk
         obtain ⟨W3, st, hg3, hb3⟩ := put_fr w2 ((fget (framesV s j) x.1).getD (false, false, []))
         have HS3 := Lib.hid (HS2.out.below hb3)
         generalize (fget (framesV s j) x.1).getD (false, false, []) = y at lk st
         clear hb2 hg3 hb3 hth
         go_wp2_with fail
         go_roundw
         case rel => exact ⟨j + 1, by omega, by rw [HNX.out], HS3.out.fm.cast HSU2.out, HS3.out.res, HS3.out.bel⟩
         case measure => simp [ByteArray.size]; omega
       | false =>
         have HSU2 := Lib.hid (show framesV s (j + 1) = framesV s j ++ [x] by rw [HSU.out, addF_new hrf hth])
         have hth2 := Lib.hid hth
         clear hrf
         go_wp2_with fail
         refine HRF.out.mono ?_
         rintro e w2 ⟨rfl, hb2⟩
         have HS2 := Lib.hid (HS.out.below hb2)
         have lk := look_fr HS2.out.fm x.1 (by omega)
         rw [hth] at lk
         obtain ⟨W3, st, hg3, hb3⟩ := put_fr w2 ((fget (framesV s j) x.1).getD (false, false, []))
         have HS3 := Lib.hid (HS2.out.below hb3)
         generalize (fget (framesV s j) x.1).getD (false, false, []) = y at lk st
         obtain ⟨W4, up, hm4, hg4, hz4⟩ := fm_set HS3.out.fm hth2.out hxk
         have HS4 := Lib.hid (show Sv1 w W4 s (j + 1) from ⟨by rw [HSU2.out]; exact hm4, (hg4.block _ (lt_of_block HS3.out.res) (fun e => by have := Option.some.inj e; omega)).trans HS3.out.res, HS3.out.bel.grown hg4 HS3.out.bel.size (fun k hk => by obtain rfl := Option.some.inj hk; omega)⟩)
         obtain ⟨xn, xa, xl, xd⟩ := x
         simp only at up lk
         clear hb2 hg3 hb3 hth hm4 hg4 hz4 hxk
         go_wp2_with fail
         go_roundw
         case rel => exact ⟨j + 1, by omega, by rw [HNX.out], HS4.out⟩
         case measure => simp [ByteArray.size]; omega
   · have hjT : j = s.length / 64 := by omega
     have hul : (s.drop (64 * j)).length < 64 := by rw [List.length_drop]; omega
     rw [hjT] at hS hul
     rw [hjT]
     generalize s.drop (64 * (s.length / 64)) = u at hul ⊢
     have hulI : ¬ (64 : Int) ≤ (u.length : Int) := by omega
     have HFM := Lib.hid hS.fm
     have HRES := Lib.hid hS.res
     have HBL := Lib.hid hS.bel
     clear hS hjT
     generalize framesV s (s.length / 64) = M at hMl HR HFM
     have HIT := Lib.hid (item_any wr (w.heap.size + 1) M 0 HFM.out (by omega))
     have hil := itemV_len M (fun x hx => (HFM.out.keys x hx).2) 0
     cases hi : itemV M 0 with
     | none =>
       rw [hi] at HIT HR
       have HR2 := Lib.hid HR.out
       simp only at HR2
       simp only [itV] at HIT
       have st : ∀ W, W.heap[w.heap.size]? = some (.cells conZ 82 (0, 0)) → (storeAr ⟨w.heap.size, 0, none⟩ (.agg conZ)).run Tryz.prog W = .ok () (W.setRow w.heap.size conZ) := fun W h => storeAr_at h rfl rfl (by simp [Value.oneCell'])
       clear hi hil HR
       go_wp2_with fail
       refine HIT.out.mono ?_
       rintro e w2 ⟨rfl, hb2⟩
       have hres2 := heap_below hb2 (lt_of_block HRES.out) HRES.out
       have st2 := st w2 hres2
       have HRS := Lib.hid (setRow_heap _ _ _ conZ _ _ hres2)
       have HB2 := Lib.hid (below_setRow (HBL.out.trans (hb2.mono HBL.out.size)) (Nat.le_refl _) conZ)
       generalize w2.setRow w.heap.size conZ = w3 at st2 HRS HB2
       clear st hb2 hres2
       go_wp2_with fail
       refine ret_ar3 rfl rfl rfl rfl rfl rfl HRS.out ?_
       exact ⟨fun _ => rfl, fun x l h => (by rw [HR2.out] at h; cases h), HB2.out⟩
     | some h =>
       have hhl := hil h hi
       rw [hi] at HIT HR
       simp only [itV] at HIT
       have HRa := Lib.hid HR.out
       simp only at HRa
       clear hi hil HR
       have HFI := Lib.hid (fun W => first_any h W (by omega))
       go_wp2_with fail
       refine HIT.out.mono ?_
       rintro e w2 ⟨rfl, hb2⟩
       have hres2 := Lib.hid (heap_below hb2 (lt_of_block HRES.out) HRES.out)
       have hfm2 := Lib.hid (HFM.out.below hb2 HFM.out.lt)
       have HB2 := Lib.hid (HBL.out.trans (hb2.mono HBL.out.size))
       clear hb2
       cases hf : firstV h with
       | none =>
         rw [hf] at HRa HFI
         have HR2 := Lib.hid HRa.out
         simp only at HR2
         simp only [fsV] at HFI
         clear hf HRa
         go_wp2_with fail
         refine (HFI.out _).mono ?_
         rintro e w3 ⟨rfl, hb3⟩
         have hz3 := heap_alloc_new w3 (.cells conZ 82)
         have st3 := storeAr_at (cs := conZ) hz3 rfl rfl (by simp [Value.oneCell'])
         have HB3 := Lib.hid (below_setRow (box_below0 w3 conZ 82) (Nat.le_refl _) conZ)
         generalize (w3.alloc (.cells conZ 82)).setRow w3.heap.size conZ = w4 at st3 HB3
         have hres4 := heap_below (hb3.trans (HB3.out.mono hb3.size)) (lt_of_block hres2.out) hres2.out
         have st4 := storeAr_at (cs := conZ) hres4 rfl rfl (by simp [Value.oneCell'])
         have HRS := Lib.hid (setRow_heap _ _ _ conZ _ _ hres4)
         have HB4 := Lib.hid (below_setRow (HB2.out.trans ((hb3.trans (HB3.out.mono hb3.size)).mono HB2.out.size)) (Nat.le_refl _) conZ)
         generalize w4.setRow w.heap.size conZ = w5 at st4 HRS HB4
         clear hb3 hz3 hres4
         go_wp2_with fail
         refine ret_ar3 rfl rfl rfl rfl rfl rfl HRS.out ?_
         exact ⟨fun _ => rfl, fun x l h => (by rw [HR2.out] at h; cases h), HB4.out⟩
       | some x =>
         have hxn := firstV_n hf
         rw [hf] at HRa HFI
         have HR2 := Lib.hid HRa.out
         simp only at HR2
         simp only [fsV] at HFI
         clear hf HRa
         go_wp2_with fail
         refine (HFI.out _).mono ?_
         rintro e w3 ⟨rfl, hb3⟩
         obtain ⟨w4, st4, hg4, hb4⟩ := put_ar w3 x
         have HG4 := Lib.hid hg4
         have hb34 := hb3.trans (hb4.mono hb3.size)
         have HR4 := Lib.hid (heap_below hb34 (lt_of_block hres2.out) hres2.out)
         have HM4 := Lib.hid (hfm2.out.below hb34 hfm2.out.lt)
         have HB4 := Lib.hid (HB2.out.trans (hb34.mono HB2.out.size))
         have HOB := Lib.hid (show w.heap.size + 1 < w3.heap.size from Nat.lt_of_lt_of_le hfm2.out.lt hb3.size)
         clear hg4 hb3 hb4 hb34 hres2 hfm2 HIT HFI HB2
         have HKY := Lib.hid (keys_any (w.heap.size + 1) w4)
         have HK4 := Lib.hid (Below.refl w4.heap.size w4 |>.alloc (Nat.le_refl _) (.cells #[.map (some (w.heap.size + 1))] 197))
         have HSO := Lib.hid (sorted_any (w4.alloc (.cells #[.map (some (w.heap.size + 1))] 197)) w4.heap.size (w.heap.size + 1) M (cell_at (i := 0) (heap_alloc_new _ _) rfl) (HM4.out.below HK4.out HM4.out.lt) (by omega))
         go_wp2_with fail
         clear st4
         generalize w3.heap.size = ob at HG4 HOB ⊢
         refine HKY.out.mono ?_
         rintro e _ ⟨rfl, rfl⟩
         go_wp2_with fail
         refine HSO.out.mono ?_
         rintro e w6 ⟨v6, rfl, ho6, hb6⟩
         obtain ⟨sa, sc, rfl, hin⟩ := ints_of_own ho6
         have hb46 := HK4.out.trans (hb6.mono HK4.out.size)
         have HIN := Lib.hid hin
         have HG6 := Lib.hid (heap_below hb46 (lt_of_block HG4.out) HG4.out)
         have HR6 := Lib.hid (heap_below hb46 (lt_of_block HR4.out) HR4.out)
         have HM6 := Lib.hid (HM4.out.below hb46 HM4.out.lt)
         have HB6 := Lib.hid (HB4.out.trans (hb46.mono HB4.out.size))
         have HOS := Lib.hid (show ob < w4.heap.size from lt_of_block HG4.out)
         have hKl := sortedF_len M
         have HKE := Lib.hid (keysF_le HM6.out.keys)
         have HST := Lib.hid (show Sv2 w6 w6 ob M x 0 (.slice none 0 0) from ⟨Only.refl _ _, HG6.out, own_nil _ _ _ _⟩)
         have HSU := Lib.hid (pairsJ_succ M)
         have HAL := Lib.hid (fun (j : Nat) (h : (sortedF M).length ≤ j) => pairsJ_all M h)
         have HKL := Lib.hid hKl
         have hKn : (sortedF M).length ≤ 20000 := by omega
         generalize hK : sortedF M = K at HIN HKE HSU HAL HKL hKn ⊢
         clear ho6 hb6 hin HKY HSO HK4 HM4 HR4 HB4 HG4 hKl hK
         go_wp2_with fail
         go_loopw [77] (fun k wr => ∃ (j : Nat) (v : Value), j ≤ K.length ∧ k = .int .i64 j ∧ Sv2 w6 wr ob M x j v) (fun k _ => K.length - (intOf k).toNat)
         case atStart => exact ⟨0, _, by omega, rfl, HST.out⟩
         case round =>
           clear HST
           obtain ⟨j, v, hj, rfl, hS⟩ := hrel
           have HS := Lib.hid hS
           clear hS
           by_cases hlt : j < K.length
           · have jI : (j : Int) < (K.length : Int) := by omega
             obtain ⟨sb, so, rfl, hsb, hsl, hcl⟩ := HIN.out j hlt
             have hos := HOS.out
             simp only [World.size_alloc] at hsb
             have ck := (HS.out.only.cell (p := ⟨sb, so + j, none⟩) hsl (by simp; omega)).trans hcl
             have hkb := HKE.out _ (List.getElem_mem hlt)
             have HPJ := Lib.hid (HSU.out j hlt)
             generalize K[j] = n at ck hkb HPJ
             have hob := HOB.out
             have hmr := HS.out.fm HM6.out (by omega)
             have HIT := Lib.hid (item_any wr (w.heap.size + 1) M n hmr hkb)
             have hil := itemV_len M (fun x hx => (hmr.keys x hx).2) n
             clear hcl hmr
             cases hi : itemV M n with
             | none =>
               rw [hi] at HIT HPJ
               simp only [itV] at HIT
               have HPJ2 := Lib.hid (show pairsJ M (j + 1) = pairsJ M j by rw [HPJ.out]; split <;> simp)
               clear hi hil HPJ
               go_wp2_with fail
               refine HIT.out.mono ?_
               rintro e w7 ⟨rfl, hb7⟩
               have HS7 := Lib.hid (HS.out.below hb7)
               clear hb7 ck
               by_cases hn0 : n = 0
               · subst hn0
                 go_wp2_with fail
                 go_roundw
                 case rel => exact ⟨j + 1, v, by omega, by go_num, HS7.out.only, HS7.out.out, by rw [HPJ2.out]; exact HS7.out.row⟩
                 case measure => simp [intOf]; omega
               · have e0 : ((n : Int) == 0) = false := by simp; omega
                 go_wp2_with fail
                 go_roundw
                 case rel => exact ⟨j + 1, v, by omega, by go_num, HS7.out.only, HS7.out.out, by rw [HPJ2.out]; exact HS7.out.row⟩
                 case measure => simp [intOf]; omega
             | some t =>
               have htl := hil t hi
               rw [hi] at HIT HPJ
               simp only [itV] at HIT
               clear hi hil
               by_cases hn0 : n = 0
               · subst hn0
                 have HPJ2 := Lib.hid (show pairsJ M (j + 1) = pairsJ M j by rw [HPJ.out, if_pos rfl]; simp)
                 clear HPJ
                 go_wp2_with fail
                 refine HIT.out.mono ?_
                 rintro e w7 ⟨rfl, hb7⟩
                 have HS7 := Lib.hid (HS.out.below hb7)
                 clear hb7 ck
                 go_wp2_with fail
                 go_roundw
                 case rel => exact ⟨j + 1, v, by omega, by go_num, HS7.out.only, HS7.out.out, by rw [HPJ2.out]; exact HS7.out.row⟩
                 case measure => simp [intOf]; omega
               · have e0 : ((n : Int) == 0) = false := by simp; omega
                 rw [if_neg hn0, Option.bind_some] at HPJ
                 have htl6 : t.length ≤ 1000000 := by have := HKL.out; omega
                 have hpv : pairV t = if (textR 1000 (textR 32 t 0).2.1 (textR 32 t 0).2.2).2.2 = 0 ∧ (textR 1000 (textR 32 t 0).2.1 (textR 32 t 0).2.2).2.1 = [] then some ((textR 32 t 0).1, (textR 1000 (textR 32 t 0).2.1 (textR 32 t 0).2.2).1) else none := rfl
                 have HT1 := Lib.hid (fun W g (h : RdAt W g t 0) => text_32 W g t 0 h htl6)
                 have ht1 := textR_len 32 t 0
                 generalize textR 32 t 0 = T1 at hpv HT1 ht1
                 have HT2 := Lib.hid (fun W g (h : RdAt W g T1.2.1 T1.2.2) => text_1000 W g T1.2.1 T1.2.2 h (by omega))
                 generalize textR 1000 T1.2.1 T1.2.2 = T2 at hpv HT2
                 have HPV := Lib.hid hpv
                 clear hpv ht1
                 go_wp2_with fail
                 refine HIT.out.mono ?_
                 rintro e w7 ⟨rfl, hb7⟩
                 have HS7 := Lib.hid (HS.out.below hb7)
                 clear hb7 ck
                 go_wp2_with fail
                 refine (newReader_any t _).mono ?_
                 rintro e w8 ⟨rfl, hr8, hb8⟩
                 have HB8 := Lib.hid hb8
                 have HA8 := Lib.hid (HT1.out w8 _ hr8)
                 have HLT := Lib.hid hr8.lt
                 obtain ⟨rg, hrg⟩ : ∃ rg, rg = w7.heap.size := ⟨_, rfl⟩
                 have HRG := Lib.hid hrg
                 rw [← hrg] at HA8 HB8 HLT ⊢
                 clear hb8 hr8 hrg
                 go_wp2_with fail
                 refine HA8.out.mono ?_
                 rintro e w9 ⟨rfl, hr9, ho9⟩
                 have HB9 := Lib.hid (HB8.out.trans (ho9.below (Nat.le_of_lt HLT.out) (by simp)))
                 have HA9 := Lib.hid (HT2.out w9 _ hr9)
                 have HL9 := Lib.hid hr9.lt
                 clear hr9 ho9
                 go_wp2_with fail
                 refine HA9.out.mono ?_
                 rintro e w10 ⟨rfl, hr10, ho10⟩
                 have hb10 := HB9.out.trans (ho10.below (Nat.le_of_lt HL9.out) (by simp))
                 rw [HRG.out] at hb10
                 obtain ⟨W11, hW11⟩ : ∃ W, W = w10.alloc (.cells #[.string ⟨T1.1.toArray⟩, .string ⟨T2.1.toArray⟩] 46) := ⟨_, rfl⟩
                 have hb11 : Below w7.heap.size w7 W11 := by rw [hW11]; exact hb10.alloc hb10.size _
                 have HS11 := Lib.hid (HS7.out.below hb11)
                 have hp11 : W11.heap[w10.heap.size]? = some (.cells #[.string ⟨T1.1.toArray⟩, .string ⟨T2.1.toArray⟩] 46 (0, 0)) := by rw [hW11]; exact heap_alloc_new _ _
                 have HP11 := Lib.hid hp11
                 have hr11 : RdAt W11 rg T2.2.1 T2.2.2 := by rw [hW11]; exact ⟨(halloc _ _ hr10.lt).trans hr10.row⟩
                 have HEN := Lib.hid (end_read W11 rg _ _ hr11)
                 clear hr10 ho10 hb10 hb11 hp11 hr11
                 go_wp2_with fail
                 rw [← hW11]
                 clear hW11
                 by_cases hq : T2.2.2 = 0 ∧ T2.2.1 = []
                 · have hz : endR T2.2.1 T2.2.2 = 0 := endR_ok.2 hq
                   rw [hz] at HEN
                   have HPJ2 := Lib.hid (show pairsJ M (j + 1) = pairsJ M j ++ [(T1.1, T2.1)] by rw [HPJ.out, HPV.out, if_pos hq]; rfl)
                   clear hq hz
                   refine HEN.out.mono ?_
                   rintro e _ ⟨rfl, rfl⟩
                   have cv := cell_at HS11.out.out (outC_at x v)
                   have fv := free_at HS11.out.out 22
                   have x0 := cell_at (i := 0) (v := .string ⟨T1.1.toArray⟩) HP11.out rfl
                   have x1 := cell_at (i := 1) (v := .string ⟨T2.1.toArray⟩) HP11.out rfl
                   have HOW := Lib.hid (show (W11.alloc (.cells #[.string ⟨T1.1.toArray⟩, .string ⟨T2.1.toArray⟩] 46)).ownsRow w6.heap.size 46 2 v (pairsJ M j).length (prsF (pairsJ M j)) from World.ownsRow.alloc HS11.out.row _)
                   have HPN := Lib.hid (pairsJ_len M j)
                   have HSZ := Lib.hid HS11.out.only.size
                   have HOB6 := Lib.hid (lt_of_block HG6.out)
                   go_wp2_with (at_builtin; refine wpList_append_own _ rfl _ _ 24 rfl w6.heap.size 46 i0 (.agg #[.string ⟨#[]⟩, .string ⟨#[]⟩]) 2 32 Tryz.underlying24 hi0 hz0 hz1 hz2 rfl (by decide) _ _ _ rfl HOW.out _ 1 _ (encP (T1.1, T2.1)) rfl rfl (news_at (heap_alloc_new _ _)) (one_prs [(T1.1, T2.1)]) ?b3 ?b4 ?b5 ?_)
                   case b3 => have := HPN.out; simp only [maxLen]; omega
                   case b4 => have := HPN.out; omega
                   case b5 => have := HSZ.out; simp; omega
                   intro v12 w12 ho12 hg12 _
                   obtain ⟨h12, hs12⟩ := HS11.out.push HPJ2.out ho12 hg12 HOB6.out
                   obtain ⟨pa12, pc12, rfl, _⟩ := prs_of_row hs12.row
                   have c12 := cell_at h12 (outC_at x v)
                   have f12 := free_at h12 22
                   have HS12 := Lib.hid hs12
                   clear ho12 hg12 h12 hs12 cv fv x0 x1 HOW
                   go_wp2_with fail
                   go_roundw
                   case rel => exact ⟨j + 1, _, by omega, by go_num, HS12.out⟩
                   case measure => simp [intOf]; omega
                 · have hz : ¬ endR T2.2.1 T2.2.2 = 0 := fun h => hq (endR_ok.1 h)
                   have hz2 : (endR T2.2.1 T2.2.2 == 0) = false := by simpa using hz
                   have HPJ2 := Lib.hid (show pairsJ M (j + 1) = pairsJ M j by rw [HPJ.out, HPV.out, if_neg hq]; simp)
                   generalize endR T2.2.1 T2.2.2 = z at HEN hz hz2
                   clear hq
                   refine HEN.out.mono ?_
                   rintro e _ ⟨rfl, rfl⟩
                   go_wp2_with fail
                   go_roundw
                   case rel => exact ⟨j + 1, v, by omega, by go_num, HS11.out.only, HS11.out.out, by rw [HPJ2.out]; exact HS11.out.row⟩
                   case measure => simp [intOf]; omega
           · have jI : ¬ (j : Int) < (K.length : Int) := by omega
             have hrow := HS.out.row
             unfold PrRow at hrow
             rw [HAL.out j (by omega)] at hrow
             have hout := HS.out.out
             obtain ⟨pa, pc, rfl, hpc1, hpc2, _⟩ := prs_of_row (l := pairsV M) hrow
             have HPC := Lib.hid (And.intro hpc1 hpc2)
             have HNW := Lib.hid (show ∀ b off, pa = some ⟨b, off, none⟩ → w.heap.size ≤ b from fun b off e => by
               subst e
               have h1 := row_own hrow (k := b) rfl
               have h2 := HB6.out.size
               omega)
             have hPn : (pairsV M).length ≤ 20000 := by rw [← HAL.out j (by omega)]; have := pairsJ_len M j; have := HKL.out; omega
             rw [outC_con] at hout
             have hob := HOB.out
             have hosl := HOS.out
             have hb6 := HB6.out.size
             have h6 := lt_of_block HG6.out
             have HBR := Lib.hid (show Below w.heap.size w wr from HB6.out.trans (HS.out.only.below HB6.out.size (by simp; omega)))
             have hres := HS.out.only.heap HR6.out (by simp; omega)
             obtain ⟨CS, hCS⟩ : ∃ CS, CS = conC (restOfHd x) (x.i 1) (x.i 2) (x.i 3) (x.i 4) (x.ap : Int) pa (pairsV M).length pc := ⟨_, rfl⟩
             have hone : CS.all (·.oneCell') = true := by rw [hCS]; exact one_con
             have hcs : CS.size = 23 := by rw [hCS]; rfl
             have hc22 : CS[22]? = some (.slice pa (pairsV M).length pc) := by rw [hCS]; rfl
             rw [← hCS] at hout
             have HCS := Lib.hid hCS
             clear hCS
             have la : (loadAr ⟨ob, 0, none⟩).run Tryz.prog wr.drew = .ok (.agg CS) wr.drew := loadAr_at (w := wr.drew) hout hcs
             have st : (storeAr ⟨w.heap.size, 0, none⟩ (.agg CS)).run Tryz.prog wr.drew = .ok () (wr.drew.setRow w.heap.size CS) := storeAr_at (w := wr.drew) hres hcs rfl hone
             have HRS := Lib.hid (setRow_heap wr.drew _ _ CS _ _ hres)
             have cp : wr.drew.cell? ⟨ob, 22, none⟩ = some (.slice pa (pairsV M).length pc) := cell_at (w := wr.drew) hout hc22
             have cpz : (wr.drew.setRow w.heap.size CS).cell? ⟨ob, 22, none⟩ = some (.slice pa (pairsV M).length pc) := cell_at ((setRow_other wr.drew _ _ _ (by omega)).trans hout) hc22
             have hsub : IntKind.i64.wrap ((x.n : Int) - ((pairsV M).length : Int)) = (x.n : Int) - ((pairsV M).length : Int) := IntWalk.i64_in _ (by omega)
             have HBZ := Lib.hid (below_setRow (HBR.out.trans (below_drew1.mono HBR.out.size)) (Nat.le_refl _) CS)
             have hrowz : PrRow (wr.drew.setRow w.heap.size CS) w6.heap.size (.slice pa (pairsV M).length pc) (pairsV M) := World.ownsRow.kept hrow (row := some w.heap.size) ⟨rfl, rfl, rfl, by simp, fun k _ hk => setRow_other wr.drew _ _ _ (fun e => hk (by rw [e]))⟩ (by
               by_cases hn : (Value.slice pa (pairsV M).length pc).ownBlock = some w.heap.size
               · have := row_own hrow hn; omega
               · exact Or.inr hn)
             have HPZ := Lib.hid (show Prs (wr.drew.setRow w.heap.size CS) (wr.drew.setRow w.heap.size CS).heap.size pa (pairsV M) by
               obtain ⟨pa', pc', hv', _, _, hprs⟩ := prs_of_row hrowz
               simp only [Value.slice.injEq, true_and] at hv'
               rw [hv'.1]; exact hprs)
             generalize wr.drew.setRow w.heap.size CS = wz at st HRS HBZ HPZ cpz
             generalize pairsV M = P at HR2 HPC HRS HPZ la st cp cpz hsub hPn HCS
             have HCZ := Lib.hid hcs
             clear hrow hout hres hpc1 hpc2 hrowz hone hcs hc22 hob hosl hb6 h6
             go_wp2_with fail
             go_region
             all_goals
               go_wp2_with fail
               refine ret_ar3 rfl rfl rfl rfl rfl HCZ.out HRS.out ?_
               rw [HCS.out]
               exact ⟨fun h => (by rw [HR2.out] at h; cases h), fun y l hy => (by
                 rw [HR2.out] at hy
                 obtain ⟨rfl, rfl⟩ := Prod.mk.inj (Option.some.inj hy)
                 exact ⟨pa, pc, _, rfl, HPZ.out, HPC.out.1, HPC.out.2, HNW.out⟩), HBZ.out⟩
end
end

section
open Go.RowKit Go.Sort
attribute [local go_sem] ext_take ext_drop

/-- An archive, or a content. -/
structure Ar where
 z : Rest
 org : Int
 fmt : Int
 len : Int
 blk : Int
 ap : Int
 l : List Pr
abbrev Ar.ok (A : Ar) : Bool := archP A.z A.org A.fmt A.len A.blk A.ap A.l
abbrev Ar.val (A : Ar) : Bool := valP A.z A.org A.fmt A.len A.blk A.ap A.l
abbrev Ar.enc (A : Ar) : By := encA A.z A.org A.fmt A.len A.blk A.ap A.l
abbrev Ar.cs (A : Ar) (a : Option Addr) (c : Nat) : Array Value := conC A.z A.org A.fmt A.len A.blk A.ap a A.l.length c
def arOf (x : Hd) (l : List Pr) : Ar := ⟨restOfHd x, x.i 1, x.i 2, x.i 3, x.i 4, (x.ap : Int), l⟩
def salvA (s : By) : Option Ar := (salvV s).map fun y => arOf y.1 y.2
def dcdV (s : By) : Option Ar := match salvA s with
 | none => none
 | some A => if A.ok = true ∧ A.enc = s then some A else none
def rstV (s : By) : Option Ar := match dcdV s with
 | none => none
 | some A => if A.val = true then some A else none
theorem valP_ok {A : Ar} (h : A.val = true) : A.ok = true := by
 unfold Ar.val valP at h
 simp only [Bool.and_eq_true] at h
 exact h.1.2
theorem dec_enc (A : Ar) (h : A.ok = true) : dcdV A.enc = some A := by
 have h1 := salv_enc A.z A.org A.fmt A.len A.blk A.ap A.l h
 have hb := hdOf_back A.z A.org A.fmt A.len A.blk A.ap A.l.length (archP_iff.1 h).1.1
 have h2 : salvA A.enc = some A := by
   unfold salvA
   rw [h1]
   simp only [Option.map_some, arOf, hb.1, hb.2.1, hb.2.2.1, hb.2.2.2.1, hb.2.2.2.2.1, hb.2.2.2.2.2.1]
 unfold dcdV
 rw [h2]
 simp only
 rw [if_pos ⟨h, trivial⟩]
theorem rst_enc (A : Ar) (h : A.val = true) : rstV A.enc = some A := by
 unfold rstV
 rw [dec_enc A (valP_ok h)]
 simp only
 rw [if_pos h]
theorem textR_le (most : Nat) (l : By) (e : Int) : (textR most l e).1.length ≤ most := by
 have := cntR_le most l e
 unfold textR
 split
 · split
   · simp
   · simp only [List.length_take]; omega
 · simp
theorem firstV_vol {h : By} {x : Hd} (hx : firstV h = some x) : x.vol.length ≤ 31 ∧ x.own.length ≤ 31 := by
 have h4 : (st4 h).1.length ≤ 31 := by unfold st4; exact textR_le _ _ _
 have h5 : (st5 h).1.length ≤ 31 := by unfold st5; exact textR_le _ _ _
 unfold firstV at hx
 generalize st9 h = S9 at hx
 generalize (st1 h).1 = a at hx
 generalize (st2 h).1 = b at hx
 generalize (st3 h).1.getD 0 0 = c at hx
 generalize (st4 h).1 = e at hx h4
 generalize (st5 h).1 = f at hx h5
 generalize (st6 h).1 = g at hx
 generalize (st7 h).1 = i at hx
 generalize (st8 h).1.getD 0 0 = j at hx
 by_cases hc : S9.2.2 = 0 ∧ S9.2.1 = []
 · rw [if_pos hc] at hx
   obtain rfl := Option.some.inj hx
   exact ⟨h4, h5⟩
 · rw [if_neg hc] at hx; cases hx
/-- What is salvaged is not too long. -/
theorem salvA_len {s : By} {A : Ar} (h : salvA s = some A) : A.l.length ≤ s.length / 64 ∧ A.z.vol.length ≤ 31 ∧ A.z.own.length ≤ 31 := by
 unfold salvA at h
 rw [Option.map_eq_some_iff] at h
 obtain ⟨⟨x, l⟩, hs, rfl⟩ := h
 unfold salvV at hs
 cases hi : itemV (framesV s (s.length / 64)) 0 with
 | none => rw [hi] at hs; cases hs
 | some t =>
   rw [hi] at hs
   simp only at hs
   cases hf : firstV t with
   | none => rw [hf] at hs; cases hs
   | some y =>
     rw [hf] at hs
     simp only at hs
     obtain ⟨rfl, rfl⟩ := Prod.mk.inj (Option.some.inj hs)
     refine ⟨?_, firstV_vol hf⟩
     have h1 := framesV_len s (s.length / 64)
     have h2 : (pairsV (framesV s (s.length / 64))).length ≤ (framesV s (s.length / 64)).length := by
       rw [← pairsJ_all (framesV s (s.length / 64)) (Nat.le_refl _)]; exact pairsJ_len _ _
     show (pairsV (framesV s (s.length / 64))).length ≤ s.length / 64
     omega

/-- What gives back an archive or a content and an error. -/
structure ArRet (w : World) (o : Option Ar) (e : Ending) (w' : World) : Prop where
 bad : o = none → e = .returned (.tuple #[.agg conZ, .int .i64 11])
 ok : ∀ A, o = some A → ∃ (a : Option Addr) (c : Nat), e = .returned (.tuple #[.agg (A.cs a c), .int .i64 0]) ∧ Prs w' w'.heap.size a A.l ∧ A.l.length ≤ c ∧ c ≤ maxLen ∧ ∀ b off, a = some ⟨b, off, none⟩ → w.heap.size ≤ b
 bel : Below w.heap.size w w'
theorem ret_ar2 {fn : Func} {R : Ending → World → Prop} {a : Act} {w : World} {p u : Tmp} {rb : Nat} {cs : Array Value} {x : Value} (hf : fn.results = #[.cell p 82, .tmp u]) (hp : a.tmps.getD p undef = .pointer (some ⟨rb, 0, none⟩)) (hu : a.tmps.getD u undef = x) (hd : a.defers = [])
   (hi : cs.size = 23) (hg : w.heap[rb]? = some (.cells cs 82 (0, 0))) (hR : R (.returned (.tuple #[.agg cs, x])) w) : bodyPost Tryz.prog fn R .ret a w := by
 have hp' : a.tmps[p]?.getD undef = .pointer (some ⟨rb, 0, none⟩) := by simpa using hp
 have hu' : a.tmps[u]?.getD undef = x := by simpa using hu
 refine bodyPost_ret ?_ hd hR
 simp [results, hf, hp', hu', asAddr, run_loadVar_row w rb 82 82 cs (0, 0) _ hg Tryz.underlying82 rfl (by rw [info_ar, hi])]

/-- The result and the archive that was salvaged, in their blocks. -/
structure Dc (w W : World) (b : Nat) (cs : Array Value) : Prop where
 res : W.heap[w.heap.size]? = some (.cells conZ 82 (0, 0))
 arc : W.heap[b]? = some (.cells cs 82 (0, 0))
 bel : Below w.heap.size w W
 lt : w.heap.size < b
theorem Dc.below {w W W' : World} {b : Nat} {cs : Array Value} (h : Dc w W b cs) (hb : Below W.heap.size W W') : Dc w W' b cs :=
 ⟨heap_below hb (lt_of_block h.res) h.res, heap_below hb (lt_of_block h.arc) h.arc, h.bel.trans (hb.mono h.bel.size), h.lt⟩
theorem dc_put (w W : World) (hb : Below (w.heap.size + 1) (w.alloc (.cells conZ 82)) W) (cs : Array Value) (hi : cs.size = 23) (h1 : cs.all (·.oneCell') = true) :
   ∃ W', (storeAr ⟨W.heap.size, 0, none⟩ (.agg cs)).run Tryz.prog (W.alloc (.cells conZ 82)) = .ok () W' ∧ Dc w W' W.heap.size cs ∧ Below W.heap.size W W' := by
 have hz := heap_alloc_new W (.cells conZ 82)
 have h0 := heap_below hb (by omega) (heap_alloc_new w (.cells conZ 82))
 have hs := hb.size
 simp only [World.size_alloc] at hs
 have hbw : Below W.heap.size W ((W.alloc (.cells conZ 82)).setRow W.heap.size cs) := below_setRow (box_below0 W conZ 82) (Nat.le_refl _) _
 have hb0 : Below w.heap.size w W := ((Below.refl _ _).alloc (Nat.le_refl _) (.cells conZ 82)).trans (hb.mono (by omega))
 exact ⟨_, storeAr_at hz hi rfl h1, ⟨heap_below hbw (lt_of_block h0) h0, setRow_heap _ _ _ _ _ _ hz, hb0.trans (hbw.mono hb0.size), by omega⟩, hbw⟩

section
attribute [local go_sem ↓] loadAr_down storeAr_down
set_option maxRecDepth 100000 in
set_option maxHeartbeats 16000000 in
theorem decode_arc (s : By) (w : World) (hs : s.length ≤ 300000) :
   Calls Tryz.prog 58 #[.string ⟨s.toArray⟩] w fun e w' => ArRet w (dcdV s) e w' := by
 have hb0 : Below w.heap.size w (w.alloc (.cells conZ 82)) := (Below.refl _ _).alloc (Nat.le_refl _) _
 have HSV := Lib.hid (salvage_any s (w.alloc (.cells conZ 82)) (by omega))
 have hD : dcdV s = match salvA s with
   | none => none
   | some A => if A.ok = true ∧ A.enc = s then some A else none := rfl
 generalize dcdV s = R at hD ⊢
 cases hv : salvV s with
 | none =>
   have hR : R = none := by rw [hD]; unfold salvA; rw [hv]; rfl
   have HR := Lib.hid hR
   rw [hv] at HSV
   clear hD hv hR
   go_enter Tryz.func58, Tryz.ntmps58
   go_wp2_with fail
   refine HSV.out.mono ?_
   rintro e w2 h2
   obtain rfl := h2.bad rfl
   obtain ⟨w3, st3, hd3, _⟩ := dc_put w w2 (by have := h2.bel; simpa using this) conZ rfl (by simp [Value.oneCell'])
   have st4 := storeAr_at (cs := conZ) hd3.res rfl rfl (by simp [Value.oneCell'])
   have HRS := Lib.hid (setRow_heap _ _ _ conZ _ _ hd3.res)
   have HB := Lib.hid (below_setRow hd3.bel (Nat.le_refl _) conZ)
   generalize w3.setRow w.heap.size conZ = w4 at st4 HRS HB
   clear h2 hd3
   go_wp2_with fail
   refine ret_ar2 rfl rfl rfl rfl rfl HRS.out ?_
   exact ⟨fun _ => rfl, fun A h => (by rw [HR.out] at h; cases h), HB.out⟩
 | some y =>
   obtain ⟨x, l⟩ := y
   have hsa : salvA s = some (arOf x l) := by unfold salvA; rw [hv]; rfl
   obtain ⟨hl1, hl2, hl3⟩ := salvA_len hsa
   rw [hsa] at hD
   simp only at hD
   have HD := Lib.hid hD
   rw [hv] at HSV
   clear hD hv hsa
   go_enter Tryz.func58, Tryz.ntmps58
   go_wp2_with fail
   refine HSV.out.mono ?_
   rintro e w2 h2
   obtain ⟨a, c, k, rfl, hp2, hc1, hc2, hnew⟩ := h2.ok x l rfl
   simp only [World.size_alloc] at hnew
   have hcs : conC (restOfHd x) (x.i 1) (x.i 2) (x.i 3) (x.i 4) (x.ap : Int) a l.length c = (arOf x l).cs a c := rfl
   rw [hcs]
   have hl : l = (arOf x l).l := rfl
   rw [hl] at hp2 hc1
   generalize arOf x l = A at hl1 hl2 hl3 HD hp2 hc1 ⊢
   clear hcs hl
   obtain ⟨CS, hCS⟩ : ∃ CS, CS = A.cs a c := ⟨_, rfl⟩
   rw [← hCS]
   have hsz : CS.size = 23 := by rw [hCS]; rfl
   have hone : CS.all (·.oneCell') = true := by rw [hCS]; exact one_con
   obtain ⟨w3, st3, hd3, hb3⟩ := dc_put w w2 (by have := h2.bel; simpa using this) CS hsz hone
   have la3 := loadAr_at hd3.arc hsz
   have HD3 := Lib.hid hd3
   have HP3 := Lib.hid (hp2.below hb3)
   have HB3 := Lib.hid hb3.size
   have HEN := Lib.hid (aencode_any (z := A.z) w3 w2.heap.size a c A.l A.org A.fmt A.len A.blk A.ap (hp2.below hb3) hb3.size (by omega) (by omega) (by omega))
   rw [show conC A.z A.org A.fmt A.len A.blk A.ap a A.l.length c = CS from hCS.symm] at HEN
   have HCS := Lib.hid hCS
   clear h2 hd3 hb3 hp2 hCS
   go_wp2_with fail
   clear st3
   generalize w2.heap.size = b at HD3 HP3 HEN la3 HB3 ⊢
   refine HEN.out.mono ?_
   rintro e w4 ⟨rfl, hb4⟩
   have HD4 := Lib.hid (HD3.out.below hb4)
   have H34 := Lib.hid hb4.size
   have HP4 := Lib.hid ((HP3.out.mono HB3.out).below hb4)
   clear hb4 HEN
   by_cases hq : A.ok = true ∧ A.enc = s
   · have HR := Lib.hid (show R = some A by rw [HD.out, if_pos hq])
     have hE : encV A.z A.org A.fmt A.len A.blk A.ap A.l = #[.string ⟨s.toArray⟩, .int .i64 0] := by
       unfold encV
       rw [if_pos hq.1]
       exact congrArg (fun x : By => #[Value.string ⟨x.toArray⟩, Value.int .i64 0]) hq.2
     rw [hE]
     have la := loadAr_at HD4.out.arc hsz
     have st := storeAr_at HD4.out.res hsz rfl hone
     have HRS := Lib.hid (setRow_heap _ _ _ CS _ _ HD4.out.res)
     have HB := Lib.hid (below_setRow HD4.out.bel (Nat.le_refl _) CS)
     have HSS := Lib.hid (lt_of_block HD4.out.arc)
     have HPZ := Lib.hid (show Prs (w4.setRow w.heap.size CS) (w4.setRow w.heap.size CS).heap.size a A.l from by
       refine ⟨fun hne => ?_⟩
       obtain ⟨b', off, h1, h2, h3⟩ := HP4.out.cells hne
       have hbn := hnew b' off h1
       have hk : (w4.setRow w.heap.size CS).heap[b']? = w4.heap[b']? := setRow_other _ _ _ _ (by omega)
       exact ⟨b', off, h1, by have := HSS.out; have := H34.out; simp; omega, fun i hi => ⟨(World.cell?_of_block hk).trans (h3 i hi).1, (World.cell?_of_block hk).trans (h3 i hi).2⟩⟩)
     generalize w4.setRow w.heap.size CS = w5 at st HRS HB HPZ
     have HSZ := Lib.hid hsz
     clear hq hE hsz hone la3
     go_wp2_with fail
     refine ret_ar2 rfl rfl rfl rfl HSZ.out HRS.out ?_
     exact ⟨fun h => (by rw [HR.out] at h; cases h), fun B hB => (by
       rw [HR.out] at hB
       obtain rfl := Option.some.inj hB
       exact ⟨a, c, by rw [HCS.out]; rfl, HPZ.out, hc1, hc2, fun b off hx => by have := hnew b off hx; omega⟩), HB.out⟩
   · have HR := Lib.hid (show R = none by rw [HD.out, if_neg hq])
     have st := storeAr_at (cs := conZ) HD4.out.res rfl rfl (by simp [Value.oneCell'])
     have HRS := Lib.hid (setRow_heap _ _ _ conZ _ _ HD4.out.res)
     have HB := Lib.hid (below_setRow HD4.out.bel (Nat.le_refl _) conZ)
     generalize w4.setRow w.heap.size conZ = w5 at st HRS HB
     clear la3
     by_cases hok : A.ok = true
     · have hne : ¬ A.enc = s := fun h => hq ⟨hok, h⟩
       have hE : encV A.z A.org A.fmt A.len A.blk A.ap A.l = #[.string ⟨A.enc.toArray⟩, .int .i64 0] := by
         unfold encV
         rw [if_pos hok]
       rw [hE]
       generalize A.enc = t at hne ⊢
       have hne1 : (t == s) = false := by simpa using hne
       have hne2 : ¬ (ByteArray.mk t.toArray) = ⟨s.toArray⟩ := fun e => hne (by simpa using congrArg ByteArray.data e)
       have hne3 : ((ByteArray.mk t.toArray).toList == (ByteArray.mk s.toArray).toList) = false := by
         rw [ByteArray.toList_eq, ByteArray.toList_eq]; simpa using hne
       clear hq hE
       go_wp2_with fail
       refine ret_ar2 rfl rfl rfl rfl rfl HRS.out ?_
       exact ⟨fun _ => rfl, fun B hB => (by rw [HR.out] at hB; cases hB), HB.out⟩
     · have hE : encV A.z A.org A.fmt A.len A.blk A.ap A.l = #[.string ⟨#[]⟩, .int .i64 1] := by
         unfold encV
         rw [if_neg hok]
       rw [hE]
       clear hq hE
       go_wp2_with fail
       refine ret_ar2 rfl rfl rfl rfl rfl HRS.out ?_
       exact ⟨fun _ => rfl, fun B hB => (by rw [HR.out] at hB; cases hB), HB.out⟩
end
end

section
open Go.RowKit Go.Sort

abbrev zA0 : Ar := ⟨zZ, 0, 0, 0, 0, 0, []⟩
theorem ArRet.any {w w' : World} {o : Option Ar} {e : Ending} (h : ArRet w o e w') : ∃ (A : Ar) (a : Option Addr) (c : Nat) (k : Int), e = .returned (.tuple #[.agg (A.cs a c), .int .i64 k]) ∧ Prs w' w'.heap.size a A.l ∧ A.l.length ≤ c ∧ c ≤ maxLen ∧ (∀ b off, a = some ⟨b, off, none⟩ → w.heap.size ≤ b) ∧ (o = none → k = 11) ∧ ∀ B, o = some B → k = 0 ∧ A = B := by
 cases o with
 | none =>
   exact ⟨zA0, none, 0, 11, h.bad rfl, prs_nil _ _ _, Nat.le_refl _, Nat.zero_le _, (fun b off hx => by cases hx), fun _ => rfl, fun B hB => by cases hB⟩
 | some A =>
   obtain ⟨a, c, he, hp, h1, h2, h3⟩ := h.ok A rfl
   exact ⟨A, a, c, 0, he, hp, h1, h2, h3, (fun hn => by cases hn), fun B hB => ⟨rfl, Option.some.inj hB⟩⟩
theorem dcd_ok {s : By} {A : Ar} (h : dcdV s = some A) : A.ok = true := by
 unfold dcdV at h
 cases hs : salvA s with
 | none => rw [hs] at h; cases h
 | some C =>
   rw [hs] at h
   simp only at h
   by_cases hc : C.ok = true ∧ C.enc = s
   · rw [if_pos hc] at h
     obtain rfl := Option.some.inj h
     exact hc.1
   · rw [if_neg hc] at h; cases h
theorem ret_co2 {fn : Func} {R : Ending → World → Prop} {a : Act} {w : World} {p u : Tmp} {rb : Nat} {cs : Array Value} {x : Value} (hf : fn.results = #[.cell p 26, .tmp u]) (hp : a.tmps.getD p undef = .pointer (some ⟨rb, 0, none⟩)) (hu : a.tmps.getD u undef = x) (hd : a.defers = [])
   (hi : cs.size = 23) (hg : w.heap[rb]? = some (.cells cs 26 (0, 0))) (hR : R (.returned (.tuple #[.agg cs, x])) w) : bodyPost Tryz.prog fn R .ret a w := by
 have hp' : a.tmps[p]?.getD undef = .pointer (some ⟨rb, 0, none⟩) := by simpa using hp
 have hu' : a.tmps[u]?.getD undef = x := by simpa using hu
 refine bodyPost_ret ?_ hd hR
 simp [results, hf, hp', hu', asAddr, run_loadVar_row w rb 26 26 cs (0, 0) _ hg Tryz.underlying26 rfl (by rw [info_con49, hi])]

section
attribute [local go_sem ↓] loadDs_down loadAr_down storeAr_down loadCo_down storeCo_down
set_option maxRecDepth 100000 in
set_option maxHeartbeats 16000000 in
theorem dump_any (A : Ar) (w : World) (B : Nat) (a : Option Addr) (cap : Nat) (h : Prs w B a A.l) (hB : B ≤ w.heap.size) (hl : A.l.length ≤ 5000) (hvo : A.z.vol.length ≤ 9223372036854775807) (how : A.z.own.length ≤ 9223372036854775807)
   (hc0 : Codes w) (hk : ∀ p ∈ A.l, p.1.length ≤ 100000 ∧ p.2.length ≤ 100000) :
   Calls Tryz.prog 25 #[.agg (A.cs a cap)] w fun e w' => e = .returned (.tuple (if A.val = true then #[.string ⟨A.enc.toArray⟩, .int .i64 0] else #[.string ⟨#[]⟩, .int .i64 1])) ∧ Below w.heap.size w w' := by
 have hg := heap_alloc_new w (.cells (A.cs a cap) 26)
 have hb : Below w.heap.size w (w.alloc (.cells (A.cs a cap) 26)) := (Below.refl _ _).alloc (Nat.le_refl _) _
 have HV := Lib.hid (fvalid_any (z := A.z) (w.alloc (.cells (A.cs a cap) 26)) B a cap A.l A.org A.fmt A.len A.blk A.ap (h.below (hb.mono hB)) (Nat.le_trans hB hb.size) hl hvo how (hc0.below hb hc0.pos) hk)
 have HP := Lib.hid h
 have HG := Lib.hid hg
 have HB := Lib.hid hb
 have lc := loadCo_at hg rfl
 have HE := Lib.hid (fun (W : World) (hbw : Below B w W) => aencode_any (z := A.z) W B a cap A.l A.org A.fmt A.len A.blk A.ap (h.below hbw) (Nat.le_trans hB hbw.size) hl hvo how)
 obtain ⟨CS, hCS⟩ : ∃ CS, CS = A.cs a cap := ⟨_, rfl⟩
 clear hg hb h hc0 hk
 cases hv : A.val with
 | false =>
   rw [show valP A.z A.org A.fmt A.len A.blk A.ap A.l = false from hv] at HV
   clear hv
   go_enter Tryz.func25, Tryz.ntmps25
   go_wp2_with fail
   refine HV.out.mono ?_
   rintro e w2 ⟨rfl, hb2⟩
   go_wp2_with fail
   go_ret2
   exact ⟨rfl, HB.out.trans (hb2.mono HB.out.size)⟩
 | true =>
   rw [show valP A.z A.org A.fmt A.len A.blk A.ap A.l = true from hv] at HV
   have hE : encV A.z A.org A.fmt A.len A.blk A.ap A.l = #[.string ⟨A.enc.toArray⟩, .int .i64 0] := by
     unfold encV
     rw [if_pos (valP_ok hv)]
   rw [hE] at HE
   clear hv hE
   go_enter Tryz.func25, Tryz.ntmps25
   go_wp2_with fail
   refine HV.out.mono ?_
   rintro e w2 ⟨rfl, hb2⟩
   have hg2 := heap_below hb2 (lt_of_block HG.out) HG.out
   have ld := loadDs_con (z := A.z) hg2
   have c21 := cell_at (i := 21) (v := .int .i64 A.ap) hg2 rfl
   have c22 := cell_at (i := 22) (v := .slice a A.l.length cap) hg2 rfl
   have HB2 := Lib.hid (HB.out.trans (hb2.mono HB.out.size))
   have HE2 := Lib.hid (HE.out w2 (HB2.out.mono hB))
   clear hb2 hg2 lc
   go_wp2_with fail
   refine HE2.out.mono ?_
   rintro e w3 ⟨rfl, hb3⟩
   go_wp2_with fail
   go_ret2
   exact ⟨rfl, HB2.out.trans (hb3.mono HB2.out.size)⟩
set_option maxRecDepth 100000 in
set_option maxHeartbeats 16000000 in
theorem restore_any (s : By) (w : World) (hs : s.length ≤ 300000) (hc0 : Codes w) :
   Calls Tryz.prog 24 #[.string ⟨s.toArray⟩] w fun e w' => ArRet w (rstV s) e w' := by
 have hb0 : Below w.heap.size w (w.alloc (.cells conZ 26)) := (Below.refl _ _).alloc (Nat.le_refl _) _
 have hr0 := heap_alloc_new w (.cells conZ 26)
 have HDC := Lib.hid (decode_arc s (w.alloc (.cells conZ 26)) hs)
 have hD : rstV s = match dcdV s with
   | none => none
   | some A => if A.val = true then some A else none := rfl
 have hok : ∀ A, dcdV s = some A → A.ok = true := fun A h => dcd_ok h
 generalize rstV s = R at hD ⊢
 generalize dcdV s = D at hD hok HDC
 have HD := Lib.hid hD
 have HOK := Lib.hid hok
 have HB0 := Lib.hid hb0
 have HR0 := Lib.hid hr0
 have HC := Lib.hid hc0
 clear hD hok hb0 hr0 hc0
 go_enter Tryz.func24, Tryz.ntmps24
 go_wp2_with fail
 refine HDC.out.mono ?_
 rintro e w2 h2
 obtain ⟨A, a, c, k, rfl, hp, hc1, hc2, hnew, hnone, hsome⟩ := h2.any
 simp only [World.size_alloc] at hnew
 have HNEW := Lib.hid hnew
 have hb2 := HB0.out.trans (h2.bel.mono HB0.out.size)
 have hr2 := heap_below h2.bel (lt_of_block HR0.out) HR0.out
 have hz := heap_alloc_new w2 (.cells conZ 82)
 have st3 := storeAr_at (cs := A.cs a c) hz rfl rfl one_con
 have hg3 := setRow_heap _ _ _ (A.cs a c) _ _ hz
 have hb3 : Below w2.heap.size w2 ((w2.alloc (.cells conZ 82)).setRow w2.heap.size (A.cs a c)) := below_setRow (box_below0 w2 conZ 82) (Nat.le_refl _) _
 generalize (w2.alloc (.cells conZ 82)).setRow w2.heap.size (A.cs a c) = w3 at st3 hg3 hb3
 have ld := loadDs_con (z := A.z) hg3
 have c21 := cell_at (i := 21) (v := .int .i64 A.ap) hg3 rfl
 have c22 := cell_at (i := 22) (v := .slice a A.l.length c) hg3 rfl
 obtain ⟨w4, st4, hg4, hb4⟩ := put_co w3 A.z A.org A.fmt A.len A.blk A.ap a A.l.length c
 have hb24 := hb3.trans (hb4.mono hb3.size)
 have HP4 := Lib.hid (hp.below hb24)
 have HR4 := Lib.hid (heap_below hb24 (lt_of_block hr2) hr2)
 have HB4 := Lib.hid (hb2.trans (hb24.mono hb2.size))
 have HG4 := Lib.hid hg4
 have HN := Lib.hid hnone
 have HSM := Lib.hid hsome
 have HS24 := Lib.hid hb24.size
 have hl4 := loadCo_at hg4 rfl
 clear h2 hb2 hr2 hz hb3 hb4 hb24 hg3 hg4 hp hnone hsome HDC hnew
 cases hD : D with
 | none =>
   have hk := HN.out hD
   have HRN := Lib.hid (show R = none by rw [HD.out, hD])
   subst hk
   have st := storeCo_at (cs := conZ) HR4.out rfl rfl (by simp [Value.oneCell'])
   have HRS := Lib.hid (setRow_heap _ _ _ conZ _ _ HR4.out)
   have HB5 := Lib.hid (below_setRow HB4.out (Nat.le_refl _) conZ)
   generalize w4.setRow w.heap.size conZ = w5 at st HRS HB5
   clear hD
   go_wp2_with fail
   refine ret_co2 rfl rfl rfl rfl rfl HRS.out ?_
   exact ⟨fun _ => rfl, fun X hX => (by rw [HRN.out] at hX; cases hX), HB5.out⟩
 | some X =>
   obtain ⟨hk, hA⟩ := HSM.out X hD
   subst hk hA
   have hRd : R = if A.val = true then some A else none := by rw [HD.out, hD]
   have hAok := archP_iff.1 (HOK.out A hD)
   have HV := Lib.hid (fvalid_any (z := A.z) w4 w2.heap.size a c A.l A.org A.fmt A.len A.blk A.ap HP4.out HS24.out (by have := hAok.1.2.2.2; omega) (by have := hAok.1.2.2.1; omega) (by have := hAok.1.2.1; omega) (HC.out.below HB4.out HC.out.pos) (fun p hp => by
     have := hAok.2 p hp
     unfold prOk at this
     simp only [Bool.and_eq_true, decide_eq_true_eq] at this
     omega))
   clear hD hAok
   cases hv : A.val with
   | false =>
     rw [show valP A.z A.org A.fmt A.len A.blk A.ap A.l = false from hv] at HV
     have HRN := Lib.hid (show R = none by rw [hRd, hv]; rfl)
     have st : ∀ W, W.heap[w.heap.size]? = some (.cells conZ 26 (0, 0)) → (storeCo ⟨w.heap.size, 0, none⟩ (.agg conZ)).run Tryz.prog W = .ok () (W.setRow w.heap.size conZ) := fun W hW => storeCo_at hW rfl rfl (by simp [Value.oneCell'])
     clear hv hRd
     go_wp2_with fail
     refine HV.out.mono ?_
     rintro e w5 ⟨rfl, hb5⟩
     have hr5 := heap_below hb5 (lt_of_block HR4.out) HR4.out
     have st5 := st w5 hr5
     have HRS := Lib.hid (setRow_heap _ _ _ conZ _ _ hr5)
     have HB5 := Lib.hid (below_setRow (HB4.out.trans (hb5.mono HB4.out.size)) (Nat.le_refl _) conZ)
     generalize w5.setRow w.heap.size conZ = w6 at st5 HRS HB5
     clear hb5 hr5 st
     go_wp2_with fail
     refine ret_co2 rfl rfl rfl rfl rfl HRS.out ?_
     exact ⟨fun _ => rfl, fun X hX => (by rw [HRN.out] at hX; cases hX), HB5.out⟩
   | true =>
     rw [show valP A.z A.org A.fmt A.len A.blk A.ap A.l = true from hv] at HV
     have HRN := Lib.hid (show R = some A by rw [hRd, if_pos hv])
     clear hv hRd
     go_wp2_with fail
     refine HV.out.mono ?_
     rintro e w5 ⟨rfl, hb5⟩
     have hr5 := heap_below hb5 (lt_of_block HR4.out) HR4.out
     have hl5 := loadCo_at (heap_below hb5 (lt_of_block HG4.out) HG4.out) rfl
     have st5 := storeCo_at (cs := A.cs a c) hr5 rfl rfl one_con
     have HRS := Lib.hid (setRow_heap _ _ _ (A.cs a c) _ _ hr5)
     have HB5 := Lib.hid (below_setRow (HB4.out.trans (hb5.mono HB4.out.size)) (Nat.le_refl _) (A.cs a c))
     have HPZ := Lib.hid (show Prs (w5.setRow w.heap.size (A.cs a c)) (w5.setRow w.heap.size (A.cs a c)).heap.size a A.l from by
       refine ⟨fun hne => ?_⟩
       obtain ⟨b', off, h1, h2, h3⟩ := (HP4.out.below (hb5.mono HS24.out)).cells hne
       have hbn := HNEW.out b' off h1
       have hk : (w5.setRow w.heap.size (A.cs a c)).heap[b']? = w5.heap[b']? := setRow_other _ _ _ _ (by omega)
       have hs5 := hb5.size
       have hs4 := HS24.out
       exact ⟨b', off, h1, by simp; omega, fun i hi => ⟨(World.cell?_of_block hk).trans (h3 i hi).1, (World.cell?_of_block hk).trans (h3 i hi).2⟩⟩)
     generalize w5.setRow w.heap.size (A.cs a c) = w6 at st5 HRS HB5 HPZ
     clear hb5 hr5 hl4
     go_wp2_with fail
     refine ret_co2 rfl rfl rfl rfl rfl HRS.out ?_
     exact ⟨fun h => (by rw [HRN.out] at h; cases h), fun X hX => (by
       rw [HRN.out] at hX
       obtain rfl := Option.some.inj hX
       exact ⟨a, c, rfl, HPZ.out, hc1, hc2, fun b off hx => by have := HNEW.out b off hx; omega⟩), HB5.out⟩
end
end

end Go.Proofs.YtckpepfkfjdnhaaGreatDoor

/-
  Walk: slices.Insert of one pair into a row that the call owns. No condition but the row's length.
  Walk: slices.Insert of one pair into a row that the call owns. No condition but the row's length.
  Walk: slices.Insert of one pair into a row that the call owns, in its midst, where there is room. No condition but the row's length.
  Walk: slices.Insert of one pair into a row that the call owns: wherever it is, with room or without. No condition but the row's length.
  Walk: slices.Delete of one pair from a row that the call owns. No condition but the row's length.
  Walks: whether records are changed by their keys, whether a record can have a key, by the program. No condition but the key's length.
-/
import Derived.Test.YtckpepfkfjdnhaaGreatDoorQN
import Derived.Test.YtckpepfkfjdnhaaGreatDoorQP
import Derived.Deep.RegionLaw
import Derived.Laws.CopyRow
import Derived.Lib.Overlaps
import Derived.Lib.AppendZerosOnto
import Derived.Lib.Walk
namespace Go.Proofs.YtckpepfkfjdnhaaGreatDoor

section
open Go.RowKit Go.Sort

/-- copy of n elements of two cells each into a row. -/
theorem run_copy_wide {P : Program} (w : World) (dT sT ty elem : TypeId) (g o dLen dCap : Nat) (a : Addr) (sLen sCap : Nat) (cur : Array Value) (t : TypeId) (cs : List Value) (n : Nat)
   (hu : P.underlying dT = some (.slice elem)) (hs : (P.info? elem).map (·.size) = some 2)
   (hg : w.heap[g]? = some (.cells cur t (0, 0))) (hm : Nat.min sLen dLen = n) (hn : cs.length = n * 2)
   (hsrc : ∀ j v, cs[j]? = some v → w.cell? (a.add j) = some v) (hfit : o + cs.length ≤ cur.size) (h1 : ∀ v ∈ cs, v.oneCell' = true) :
   (Builtin.copy_ #[dT, sT] ty #[.slice (some ⟨g, o, none⟩) dLen dCap, .slice (some a) sLen sCap]).run P w =
     .ok (goInt n) (w.setRow g (cur.toList.take o ++ cs ++ cur.toList.drop (o + cs.length)).toArray) := by
 have hl := run_loadCells_list (P := P) w a cs hsrc
 have hst := run_storeCells_at P g o t cs 0 cur w hg (by simpa using hfit) h1
 rw [hn] at hl
 cases hq : P.info? elem with
 | none => simp [hq] at hs
 | some i =>
   have hi : i.size = 2 := by simpa [hq] using hs
   simp [Builtin.copy_, run_underlying hu, Builtin.lenOf, Builtin.firstCells, sizeOf, typeInfo, hq, hi, hm, hl, hst]

theorem wpList_copy_run {P : Program} (w : World) {ops : Array Oper} {rest : List Oper} {o : Oper} {a : Act} {Q : Exit → Act → World → Prop} (hgd : o.guard = none) (d s : Operand) (t t' : TypeId)
   (ho : o.op = .call { callee := .builtin .copy, args := #[d, s], argTypes := #[t, t'] }) (v u : Value) (hd : a.eval d = v) (hs : a.eval s = u) {v' : Value} {w' : World}
   (hr : (Builtin.copy_ #[t, t'] o.type #[v, u]).run P w = .ok v' w') (h : wpList P ops Q rest (a.put o.dst v') w') : wpList P ops Q (o :: rest) a w := by
 refine wpList_plain hgd fun K hK => ?_
 unfold Oper.wp execOp
 simp only [ho, resolve, invoke, builtin, Sem.run_bind, Sem.run_pure, Result.andThen_ok, List.map_toArray, List.map_cons, List.map_nil, hd, hs, hr]
 exact hK _ _ h
theorem step_copy_run {P : Program} {ops : Array Oper} {o : Oper} {a : Act} {w : World} {K : Act → World → Prop} {Q : Exit → Act → World → Prop} {E : Prop}
   (hg : o.guard = none) (d x : Operand) (dT sT : TypeId) (hop : o.op = Op.call { callee := Callee.builtin Builtin.copy, args := #[d, x], argTypes := #[dT, sT] })
   (v u : Value) (hd : a.eval d = v) (hx : a.eval x = u) {v' : Value} {w' : World} (hr : (Builtin.copy_ #[dT, sT] o.type #[v, u]).run P w = .ok v' w') (hK : K (a.put o.dst v') w') :
   if Region.wanted o (yielded ops a.tmps) = true then Oper.wp P o a w K Q else E := by
 have hw : Region.wanted o (yielded ops a.tmps) = true := by simp [Region.wanted, hg]
 rw [if_pos hw]
 unfold Oper.wp
 simp [execOp, hop, resolve, invoke, builtin, hd, hx, hr, Result.andThen]
 exact hK

/-- What the two copies leave in the row. -/
theorem shift_row {cur : List Value} {l : List Pr} {x : Pr} {i cap : Nat} (hi : i ≤ l.length) (hc : l.length + 1 ≤ cap) (hcur : cur.length = cap * 2) (hl : cur.take (l.length * 2) = prsF l) :
   (((cur.take ((i + 1) * 2) ++ prsF (l.drop i) ++ cur.drop ((i + 1) * 2 + (prsF (l.drop i)).length)).take (i * 2) ++ encP x ++
     (cur.take ((i + 1) * 2) ++ prsF (l.drop i) ++ cur.drop ((i + 1) * 2 + (prsF (l.drop i)).length)).drop (i * 2 + (encP x).length)).take ((l.length + 1) * 2)) = prsF (l.take i ++ x :: l.drop i) ∧
   ((cur.take ((i + 1) * 2) ++ prsF (l.drop i) ++ cur.drop ((i + 1) * 2 + (prsF (l.drop i)).length)).take (i * 2) ++ encP x ++
     (cur.take ((i + 1) * 2) ++ prsF (l.drop i) ++ cur.drop ((i + 1) * 2 + (prsF (l.drop i)).length)).drop (i * 2 + (encP x).length)).length = cap * 2 ∧
   (cur.take ((i + 1) * 2) ++ prsF (l.drop i) ++ cur.drop ((i + 1) * 2 + (prsF (l.drop i)).length)).length = cap * 2 := by
 have hd : (prsF (l.drop i)).length = (l.length - i) * 2 := by rw [prsF_len, List.length_drop]
 have he : (encP x).length = 2 := rfl
 have hlen : (cur.take ((i + 1) * 2) ++ prsF (l.drop i) ++ cur.drop ((i + 1) * 2 + (prsF (l.drop i)).length)).length = cap * 2 := by
   simp only [List.length_append, List.length_take, List.length_drop, hd, hcur]; omega
 have h1 : (cur.take ((i + 1) * 2) ++ prsF (l.drop i) ++ cur.drop ((i + 1) * 2 + (prsF (l.drop i)).length)).take (i * 2) = prsF (l.take i) := by
   rw [List.append_assoc, List.take_append_of_le_length (by rw [List.length_take]; omega), List.take_take, Nat.min_eq_left (by omega), prsF_take, ← hl, List.take_take, Nat.min_eq_left (by omega)]
 have h2 : (cur.take ((i + 1) * 2) ++ prsF (l.drop i) ++ cur.drop ((i + 1) * 2 + (prsF (l.drop i)).length)).drop (i * 2 + (encP x).length) = prsF (l.drop i) ++ cur.drop ((i + 1) * 2 + (prsF (l.drop i)).length) := by
   rw [List.append_assoc, List.drop_append, List.drop_eq_nil_of_le (by rw [List.length_take, he]; omega), List.length_take, he, Nat.min_eq_left (by omega), show i * 2 + 2 - (i + 1) * 2 = 0 by omega]
   rfl
 refine ⟨?_, ?_, hlen⟩
 · rw [h1, h2, prsF_append, prsF, ← List.append_assoc, List.take_append_of_le_length (by simp only [List.length_append, prsF_len, List.length_take, hd, he]; omega)]
   rw [List.take_of_length_le (by simp only [List.length_append, prsF_len, List.length_take, hd, he]; omega)]
   simp [encP]
 · rw [h1, h2]
   simp only [List.length_append, List.length_drop, prsF_len, List.length_take, hcur, he]; omega

theorem overlap_no (w : World) (g vb : Nat) (o lb cb : Nat) (c1 cur : Array Value) (hne : vb ≠ g) (hv : w.heap[vb]? = some (.cells c1 46 (0, 0))) (hg : w.heap[g]? = some (.cells cur 46 (0, 0))) (hc : cur.size ≠ 0) :
   (callFunc 166 #[.slice (some ⟨vb, 0, none⟩) 1 1, .slice (some ⟨g, o, none⟩) lb cb]).run Tryz.prog w = .ok (.value (.bool false)) w := by
 rw [run_callFunc_extern Tryz.func166 (by kernel_rfl) (by kernel_rfl) (by kernel_rfl) (e := Extern.SlicesOverlaps.overlaps #[24, 24] #[4]) (by kernel_rfl),
   Lib.run_overlaps_apart w 24 4 46 Tryz.underlying24 2 (fun W => by kernel_rfl) ⟨vb, 0, none⟩ ⟨g, o, none⟩ 1 1 lb cb hne 46 46 c1.size cur.size (by simp [World.shape?, hv]) (by simp [World.shape?, hg]) hc (by simp [World.frozen?, hv]) (by simp [World.frozen?, hv])]
 rfl
end

section
open Go.RowKit Go.Sort

set_option maxRecDepth 100000 in
set_option maxHeartbeats 4000000 in
theorem insert_end (w : World) (base : Nat) (v : Value) (l : List Pr) (x : Pr) (vb : Nat) (ho : PrRow w base v l) (hb : base ≤ w.heap.size) (hl : l.length ≤ 100000) (hx : w.heap[vb]? = some (.cells #[.string ⟨x.1.toArray⟩, .string ⟨x.2.toArray⟩] 46 (0, 0))) :
   Calls Tryz.prog 118 #[v, .int .i64 (l.length : Int), .slice (some ⟨vb, 0, none⟩) 1 1] w fun e w' => ∃ v', e = .returned v' ∧ PrRow w' base v' (l ++ [x]) ∧ Below base w w' := by
 obtain ⟨i0, hi0, hz0, hz1, hz2⟩ := info_parts infoPr
 obtain ⟨a, cap, rfl, hcap, hcm, hP⟩ := prs_of_row ho
 have HO := Lib.hid ho
 have HNW := Lib.hid (show ∀ (j : Nat) (u : Value), (encP x)[j]? = some u → w.cell? ((⟨vb, 0, none⟩ : Addr).add j) = some u from news_at hx)
 have hcm2 : (cap : Int) ≤ 9223372036854775807 := by unfold maxLen at hcm; omega
 have ha : a = none ∨ ∃ g, a = some ⟨g, 0, none⟩ := by
   rcases ho.2 with ⟨h, _⟩ | ⟨g, c, cur, h, _⟩
   · exact Or.inl (by injection h)
   · exact Or.inr ⟨g, by injection h⟩
 have ha0 : a = none → l.length = 0 := by
   rintro rfl
   rcases ho.2 with ⟨h, h2⟩ | ⟨g, c, cur, h, _⟩
   · exact h2
   · cases h
 clear ho hP hx
 rcases ha with rfl | ⟨g, rfl⟩
 · obtain rfl : l = [] := List.length_eq_zero_iff.1 (ha0 rfl)
   clear ha0
   have HO2 := Lib.hid (show w.ownsRow base 46 2 (.slice none 0 cap) 0 [] from HO.out)
   go_enter Tryz.func118, Tryz.ntmps118
   go_wp2_with (at_builtin; refine wpList_append_own _ rfl _ _ 24 rfl base 46 i0 (.agg #[.string ⟨#[]⟩, .string ⟨#[]⟩]) 2 32 Tryz.underlying24 hi0 hz0 hz1 hz2 rfl (by decide) _ _ _ rfl HO2.out _ 1 _ (encP x) rfl rfl HNW.out (one_prs [x]) ?b3 ?b4 ?b5 ?_)
   case b3 => unfold maxLen; omega
   case b4 => omega
   case b5 => exact hb
   intro v6 w6 ho6 hg6 _
   have HB6 := Lib.hid ((Below.refl base w).grown hg6 hb (fun k hk => row_own HO.out hk))
   have HO6 := Lib.hid (show PrRow w6 base v6 [x] by unfold PrRow; exact ho6)
   clear ho6 hg6
   go_wp2_with fail
   go_ret
   exact ⟨v6, rfl, HO6.out, HB6.out⟩
 · by_cases hcn : cap = l.length
   · subst hcn
     go_enter Tryz.func118, Tryz.ntmps118
     go_wp2_with (at_builtin; refine wpList_append_own _ rfl _ _ 24 rfl base 46 i0 (.agg #[.string ⟨#[]⟩, .string ⟨#[]⟩]) 2 32 Tryz.underlying24 hi0 hz0 hz1 hz2 rfl (by decide) _ _ _ rfl HO.out _ 1 _ (encP x) rfl rfl HNW.out (one_prs [x]) ?b3 ?b4 ?b5 ?_)
     case b3 => unfold maxLen; omega
     case b4 => omega
     case b5 => exact hb
     intro v6 w6 ho6 hg6 _
     have HB6 := Lib.hid ((Below.refl base w).grown hg6 hb (fun k hk => row_own HO.out hk))
     have HO6 := Lib.hid (show PrRow w6 base v6 (l ++ [x]) by unfold PrRow; rw [List.length_append, prsF_append]; exact ho6)
     clear ho6 hg6
     go_wp2_with fail
     go_ret
     exact ⟨v6, rfl, HO6.out, HB6.out⟩
   · go_enter Tryz.func118, Tryz.ntmps118
     go_wp2_with (at_builtin; refine wpList_append_own _ rfl _ _ 24 rfl base 46 i0 (.agg #[.string ⟨#[]⟩, .string ⟨#[]⟩]) 2 32 Tryz.underlying24 hi0 hz0 hz1 hz2 rfl (by decide) _ _ _ rfl HO.out _ 1 _ (encP x) rfl rfl HNW.out (one_prs [x]) ?b3 ?b4 ?b5 ?_)
     case b3 => unfold maxLen; omega
     case b4 => omega
     case b5 => exact hb
     intro v6 w6 ho6 hg6 _
     have HB6 := Lib.hid ((Below.refl base w).grown hg6 hb (fun k hk => row_own HO.out hk))
     have HO6 := Lib.hid (show PrRow w6 base v6 (l ++ [x]) by unfold PrRow; rw [List.length_append, prsF_append]; exact ho6)
     clear ho6 hg6
     go_wp2_with fail
     go_ret
     exact ⟨v6, rfl, HO6.out, HB6.out⟩
end

section
open Go.RowKit Go.Sort

set_option maxRecDepth 100000 in
set_option maxHeartbeats 4000000 in
theorem insert_shift (w : World) (base g cap : Nat) (cur : Array Value) (l : List Pr) (i : Nat) (x : Pr) (vb : Nat) (hbase : base ≤ g) (hblk : w.heap[g]? = some (.cells cur 46 (0, 0))) (hcm : cap ≤ maxLen) (hcur : cur.size = cap * 2)
   (hcl : cur.toList.take (l.length * 2) = prsF l) (hi : i < l.length) (hroom : l.length + 1 ≤ cap) (hl : l.length ≤ 100000) (hne : vb ≠ g) (hx : w.heap[vb]? = some (.cells #[.string ⟨x.1.toArray⟩, .string ⟨x.2.toArray⟩] 46 (0, 0))) :
   Calls Tryz.prog 118 #[.slice (some ⟨g, 0, none⟩) l.length cap, .int .i64 (i : Int), .slice (some ⟨vb, 0, none⟩) 1 1] w fun e w' => ∃ v', e = .returned v' ∧ PrRow w' base v' (l.take i ++ x :: l.drop i) ∧ Below base w w' := by
 have hsh := shift_row (x := x) (cap := cap) (Nat.le_of_lt hi) hroom (by simpa using hcur) hcl
 have hP := prs_of_cells hblk hcl
 have hov := fun o lb cb => overlap_no w g vb o lb cb #[.string ⟨x.1.toArray⟩, .string ⟨x.2.toArray⟩] cur hne hx hblk (by omega)
 have hdn : (prsF (l.drop i)).length = (l.length - i) * 2 := by rw [prsF_len, List.length_drop]
 obtain ⟨cur1, hc1⟩ : ∃ cur1, cur1 = cur.toList.take ((i + 1) * 2) ++ prsF (l.drop i) ++ cur.toList.drop ((i + 1) * 2 + (prsF (l.drop i)).length) := ⟨_, rfl⟩
 obtain ⟨cur2, hc2⟩ : ∃ cur2, cur2 = cur1.take (i * 2) ++ encP x ++ cur1.drop (i * 2 + (encP x).length) := ⟨_, rfl⟩
 rw [← hc1, ← hc2] at hsh
 have hcp1 : ∀ ty dc sc, (Builtin.copy_ #[24, 24] ty #[.slice (some ⟨g, (i + 1) * 2, none⟩) (l.length - i) dc, .slice (some ⟨g, i * 2, none⟩) (l.length + 1 - i) sc]).run Tryz.prog w.drew = .ok (goInt (l.length - i : Nat)) (w.drew.setRow g cur1.toArray) := fun ty dc sc => by
   rw [run_copy_wide (P := Tryz.prog) w.drew 24 24 ty 46 g ((i + 1) * 2) (l.length - i) dc ⟨g, i * 2, none⟩ (l.length + 1 - i) sc cur 46 (prsF (l.drop i)) (l.length - i) Tryz.underlying24 sizePr hblk (by simp only [Nat.min_def]; split <;> omega) hdn
     (fun j v hj => by
       rw [prsF_drop, List.getElem?_drop] at hj
       have := prs_news hP (i * 2 + j) v hj
       rw [add_plain] at this ⊢
       rw [Nat.zero_add] at this
       exact this) (by rw [hdn]; omega) (one_prs _), hc1]
 have hW1 : (w.drew.setRow g cur1.toArray).heap[g]? = some (.cells cur1.toArray 46 (0, 0)) := setRow_heap _ _ _ _ _ _ (show w.drew.heap[g]? = _ from hblk)
 have hv1 : (w.drew.setRow g cur1.toArray).heap[vb]? = some (.cells #[.string ⟨x.1.toArray⟩, .string ⟨x.2.toArray⟩] 46 (0, 0)) := (heap_setRow_other' w.drew (g := g) cur1.toArray (lt_of_block hx) hne).trans hx
 obtain ⟨W1, hW1e⟩ : ∃ W1, W1 = w.drew.setRow g cur1.toArray := ⟨_, rfl⟩
 rw [← hW1e] at hcp1 hW1 hv1
 have hcp2 : ∀ ty dc, (Builtin.copy_ #[24, 24] ty #[.slice (some ⟨g, i * 2, none⟩) (l.length + 1 - i) dc, .slice (some ⟨vb, 0, none⟩) 1 1]).run Tryz.prog W1 = .ok (goInt (1 : Nat)) (W1.setRow g cur2.toArray) := fun ty dc => by
   rw [run_copy_wide (P := Tryz.prog) W1 24 24 ty 46 g (i * 2) (l.length + 1 - i) dc ⟨vb, 0, none⟩ 1 1 cur1.toArray 46 (encP x) 1 Tryz.underlying24 sizePr hW1 (by simp only [Nat.min_def]; split <;> omega) rfl
     (fun j v hj => news_at hv1 j v hj) (by rw [show (encP x).length = 2 from rfl, List.size_toArray, hsh.2.2]; omega) (one_prs [x]), hc2]
 have HF := Lib.hid (show PrRow (W1.setRow g cur2.toArray) base (.slice (some ⟨g, 0, none⟩) (l.length + 1) cap) (l.take i ++ x :: l.drop i) ∧ Below base w (W1.setRow g cur2.toArray) by
   refine ⟨⟨prsF_len _, Or.inr ⟨g, cap, cur2.toArray, by congr 1; simp; omega, hbase, setRow_heap _ _ _ _ _ _ hW1, by simp; omega, hcm, by rw [List.size_toArray]; exact hsh.2.1, ?_⟩⟩, below_setRow (by rw [hW1e]; exact below_setRow (below_drewN (Below.refl base w) 1) hbase _) hbase _⟩
   rw [← hsh.1]
   simp
   omega)
 clear hsh hP hdn hc1 hc2 hW1 hv1 hcur hcl hblk hx hW1e
 have hcm2 : (cap : Int) ≤ 9223372036854775807 := by unfold maxLen at hcm; omega
 have hz2 : ¬ ((i : Int) = (l.length : Int)) := by omega
 have hw1 : IntKind.i64.wrap ((i : Int) + 1) = (i : Int) + 1 := by rw [IntKind.wrap_i64]; omega
 have hb1 : (0 : Int) ≤ (i : Int) + 1 := by omega
 have htn : ((i : Int) + 1).toNat = i + 1 := by omega
 have hb2 : ¬ (cap = i + 1) := by omega
 have hb3 : (i : Int) ≤ (l.length : Int) + 1 := by omega
 have hb4 : ¬ (cap = i) := by omega
 have hil : i ≤ l.length := by omega
 go_enter Tryz.func118, Tryz.ntmps118
 go_wp2_with (simp only [hov])

 go_region_law (refine step_copy_run rfl _ _ 24 24 rfl _ _ (by simp [Act.eval, Act.put]) (by simp [Act.eval, Act.put]) (hcp1 _ _ _) ?_)
 go_wp2_with (at_builtin; refine wpList_copy_run _ rfl _ _ 24 24 rfl _ _ rfl rfl (hcp2 _ _) ?_)
 go_wp2_with fail

 go_ret
 exact ⟨_, rfl, HF.out.1, HF.out.2⟩
end

section
open Go.RowKit Go.Sort

theorem zeroCells_len (z : Array Value) (n : Nat) : (Builtin.zeroCells z n).size = n * z.size := by simp [Builtin.zeroCells]

/-- What the copies leave in the new row. -/
theorem grow_row {row : List Value} {l : List Pr} {x : Pr} {i G : Nat} (hi : i < l.length) (hc : l.length + 1 ≤ G) (hrow : row.length = G * 2) (hl : row.take (i * 2) = prsF (l.take i)) :
   (((row.take (i * 2) ++ encP x ++ row.drop (i * 2 + (encP x).length)).take ((i + 1) * 2) ++ prsF (l.drop i) ++
     (row.take (i * 2) ++ encP x ++ row.drop (i * 2 + (encP x).length)).drop ((i + 1) * 2 + (prsF (l.drop i)).length)).take ((l.length + 1) * 2)) = prsF (l.take i ++ x :: l.drop i) ∧
   ((row.take (i * 2) ++ encP x ++ row.drop (i * 2 + (encP x).length)).take ((i + 1) * 2) ++ prsF (l.drop i) ++
     (row.take (i * 2) ++ encP x ++ row.drop (i * 2 + (encP x).length)).drop ((i + 1) * 2 + (prsF (l.drop i)).length)).length = G * 2 ∧
   (row.take (i * 2) ++ encP x ++ row.drop (i * 2 + (encP x).length)).length = G * 2 := by
 have hd : (prsF (l.drop i)).length = (l.length - i) * 2 := by rw [prsF_len, List.length_drop]
 have he : (encP x).length = 2 := rfl
 have hlen : (row.take (i * 2) ++ encP x ++ row.drop (i * 2 + (encP x).length)).length = G * 2 := by
   simp only [List.length_append, List.length_take, List.length_drop, he, hrow]; omega
 have h1 : (row.take (i * 2) ++ encP x ++ row.drop (i * 2 + (encP x).length)).take ((i + 1) * 2) = prsF (l.take i) ++ encP x := by
   rw [List.take_append_of_le_length (by simp only [List.length_append, List.length_take, he]; omega), List.take_of_length_le (by simp only [List.length_append, List.length_take, he]; omega), hl]
 refine ⟨?_, ?_, hlen⟩
 · rw [h1, prsF_append, prsF, List.take_append_of_le_length (by simp only [List.length_append, prsF_len, List.length_take, hd, he]; omega)]
   rw [List.take_of_length_le (by simp only [List.length_append, prsF_len, List.length_take, hd, he]; omega)]
   simp [encP]
 · simp only [List.length_append, List.length_drop, List.length_take, hd, hlen]
   omega

set_option maxRecDepth 100000 in
set_option maxHeartbeats 4000000 in
theorem insert_grow (w : World) (base g : Nat) (cur : Array Value) (l : List Pr) (i : Nat) (x : Pr) (vb : Nat) (hbs : base ≤ w.heap.size) (hblk : w.heap[g]? = some (.cells cur 46 (0, 0))) (hcur : cur.size = l.length * 2)
   (hcl : cur.toList.take (l.length * 2) = prsF l) (hi : i < l.length) (hl : l.length ≤ 100000) (hx : w.heap[vb]? = some (.cells #[.string ⟨x.1.toArray⟩, .string ⟨x.2.toArray⟩] 46 (0, 0))) :
   Calls Tryz.prog 118 #[.slice (some ⟨g, 0, none⟩) l.length l.length, .int .i64 (i : Int), .slice (some ⟨vb, 0, none⟩) 1 1] w fun e w' => ∃ v', e = .returned v' ∧ PrRow w' base v' (l.take i ++ x :: l.drop i) ∧ Below base w w' := by
 obtain ⟨i0, hi0, hz0, hz1, hz2⟩ := info_parts infoPr
 have hP := prs_of_cells hblk hcl
 have hgw : g < w.heap.size := lt_of_block hblk
 have hvw : vb < w.heap.size := lt_of_block hx
 have hdn : (prsF (l.drop i)).length = (l.length - i) * 2 := by rw [prsF_len, List.length_drop]
 have hold : (Builtin.firstCells i0.size i (.slice (some ⟨g, 0, none⟩) i l.length)).run Tryz.prog w.drew = .ok (prsF (l.take i)).toArray w.drew := by
   rw [hz1]
   exact run_firstCells_some w.drew 2 i ⟨g, 0, none⟩ i l.length (prsF (l.take i)) (by rw [prsF_len, List.length_take]; omega) (fun j v hj => by
     rw [prsF_take, List.getElem?_take] at hj
     split at hj
     · exact prs_news hP j v hj
     · cases hj)
 obtain ⟨G, hG⟩ : ∃ G, G = grownCap w (l.length + 1) l.length 46 := ⟨_, rfl⟩
 obtain ⟨ROW, hROW⟩ : ∃ ROW : Array Value, ROW = (prsF (l.take i)).toArray ++ Builtin.zeroCells (Value.agg #[.string ⟨#[]⟩, .string ⟨#[]⟩]).cells (l.length + 1 - i) ++ Builtin.zeroCells (Value.agg #[.string ⟨#[]⟩, .string ⟨#[]⟩]).cells (G - (l.length + 1)) := ⟨_, rfl⟩
 have hrz : ∀ ty, (Builtin.append_ #[24, 3] ty #[.slice (some ⟨g, 0, none⟩) i l.length, .int .i64 ((l.length : Int) + 1 - (i : Int))]).run Tryz.prog w =
     .ok (.slice (some ⟨w.heap.size, 0, none⟩) (l.length + 1) G) (w.drew.alloc (.cells ROW 46)) := fun ty => by
   have h := Lib.run_append_grow_zeros w 24 3 ty 46 i0 _ .i64 .i64 Tryz.underlying24 Tryz.underlying3 hi0 hz0 (some ⟨g, 0, none⟩) i l.length (prsF (l.take i)) hold (l.length + 1 - i) (by omega) (by omega) (by omega) (by omega) (by rw [hz2]; omega) (by rw [hz2, show i + (l.length + 1 - i) = l.length + 1 by omega]; exact growslice_fits (by omega) (by omega))
   rw [show i + (l.length + 1 - i) = l.length + 1 by omega, ← hG, ← hROW] at h
   rw [show (l.length : Int) + 1 - (i : Int) = ((l.length + 1 - i : Nat) : Int) by omega]
   exact h
 have hGn : l.length + 1 ≤ G := by rw [hG]; exact grownCap_ge w _ _ _
 have hGm : G ≤ maxLen := by rw [hG]; exact grownCap_le_maxLen w (l.length + 1) l.length 46 (by unfold maxLen; omega)
 have hRl : ROW.toList.length = G * 2 := by
   rw [hROW]
   simp only [Array.toList_append, List.length_append, Array.length_toList, zeroCells_len, prsF_len, List.length_take]
   simp [Value.cells]
   omega
 have hRt : ROW.toList.take (i * 2) = prsF (l.take i) := by
   rw [hROW]
   simp only [Array.toList_append, List.append_assoc]
   rw [List.take_append_of_le_length (by simp [prsF_len]; omega), List.take_of_length_le (by simp [prsF_len]; omega)]
 have hgr := grow_row (x := x) hi hGn hRl hRt
 obtain ⟨r1, hr1⟩ : ∃ r1, r1 = ROW.toList.take (i * 2) ++ encP x ++ ROW.toList.drop (i * 2 + (encP x).length) := ⟨_, rfl⟩
 obtain ⟨r2, hr2⟩ : ∃ r2, r2 = r1.take ((i + 1) * 2) ++ prsF (l.drop i) ++ r1.drop ((i + 1) * 2 + (prsF (l.drop i)).length) := ⟨_, rfl⟩
 rw [← hr1, ← hr2] at hgr
 have hN1 : (w.drew.alloc (.cells ROW 46)).heap[w.heap.size]? = some (.cells ROW 46 (0, 0)) := heap_alloc_new w.drew _
 have hv1 : (w.drew.alloc (.cells ROW 46)).heap[vb]? = some (.cells #[.string ⟨x.1.toArray⟩, .string ⟨x.2.toArray⟩] 46 (0, 0)) := (halloc w.drew _ hvw).trans hx
 have hg1 : (w.drew.alloc (.cells ROW 46)).heap[g]? = some (.cells cur 46 (0, 0)) := (halloc w.drew _ hgw).trans hblk
 have hB1 : Below base w (w.drew.alloc (.cells ROW 46)) := ((Below.refl base w).drew).alloc hbs _
 have hsz1 : (w.drew.alloc (.cells ROW 46)).heap.size = w.heap.size + 1 := by
   show (w.heap.push _).size = _
   simp
 obtain ⟨W1, hW1e⟩ : ∃ W1, W1 = w.drew.alloc (.cells ROW 46) := ⟨_, rfl⟩
 rw [← hW1e] at hrz hN1 hv1 hg1 hB1 hsz1
 have hcp1 : ∀ ty dc, (Builtin.copy_ #[24, 24] ty #[.slice (some ⟨w.heap.size, i * 2, none⟩) (l.length + 1 - i) dc, .slice (some ⟨vb, 0, none⟩) 1 1]).run Tryz.prog W1 = .ok (goInt (1 : Nat)) (W1.setRow w.heap.size r1.toArray) := fun ty dc => by
   rw [run_copy_wide (P := Tryz.prog) W1 24 24 ty 46 w.heap.size (i * 2) (l.length + 1 - i) dc ⟨vb, 0, none⟩ 1 1 ROW 46 (encP x) 1 Tryz.underlying24 sizePr hN1 (by simp only [Nat.min_def]; split <;> omega) rfl
     (fun j v hj => news_at hv1 j v hj) (by rw [show (encP x).length = 2 from rfl, ← Array.length_toList, hRl]; omega) (one_prs [x]), hr1]
 have hN2 := setRow_heap W1 w.heap.size ROW r1.toArray 46 (0, 0) hN1
 have hg2 : (W1.setRow w.heap.size r1.toArray).heap[g]? = some (.cells cur 46 (0, 0)) := (heap_setRow_other' W1 (g := w.heap.size) r1.toArray (by omega) (by omega)).trans hg1
 have hB2 : Below base w (W1.setRow w.heap.size r1.toArray) := below_setRow hB1 hbs _
 obtain ⟨W2, hW2e⟩ : ∃ W2, W2 = W1.setRow w.heap.size r1.toArray := ⟨_, rfl⟩
 rw [← hW2e] at hcp1 hN2 hg2 hB2
 have hP2 := prs_of_cells (w := W2) hg2 hcl
 have hcp2 : ∀ ty dc sc, (Builtin.copy_ #[24, 24] ty #[.slice (some ⟨w.heap.size, (i + 1) * 2, none⟩) (l.length - i) dc, .slice (some ⟨g, i * 2, none⟩) (l.length - i) sc]).run Tryz.prog W2.drew = .ok (goInt (l.length - i : Nat)) (W2.drew.setRow w.heap.size r2.toArray) := fun ty dc sc => by
   rw [run_copy_wide (P := Tryz.prog) W2.drew 24 24 ty 46 w.heap.size ((i + 1) * 2) (l.length - i) dc ⟨g, i * 2, none⟩ (l.length - i) sc r1.toArray 46 (prsF (l.drop i)) (l.length - i) Tryz.underlying24 sizePr hN2 (by simp only [Nat.min_def]; split <;> omega) hdn
     (fun j v hj => by
       rw [prsF_drop, List.getElem?_drop] at hj
       have := prs_news hP2 (i * 2 + j) v hj
       rw [add_plain] at this ⊢
       rw [Nat.zero_add] at this
       exact this) (by rw [hdn, List.size_toArray, hgr.2.2]; omega) (one_prs _), hr2]
 have HF := Lib.hid (show PrRow (W2.drew.setRow w.heap.size r2.toArray) base (.slice (some ⟨w.heap.size, 0, none⟩) (l.length + 1) G) (l.take i ++ x :: l.drop i) ∧ Below base w (W2.drew.setRow w.heap.size r2.toArray) by
   refine ⟨⟨prsF_len _, Or.inr ⟨w.heap.size, G, r2.toArray, by congr 1; simp; omega, hbs, setRow_heap W2.drew _ _ _ _ _ hN2, by simp; omega, hGm, by rw [List.size_toArray]; exact hgr.2.1, ?_⟩⟩, below_setRow (below_drewN hB2 1) hbs _⟩
   rw [← hgr.1]
   simp
   omega)
 have hG63 : (G : Int) ≤ 9223372036854775807 := by unfold maxLen at hGm; omega
 have hGi : ¬ (G = i) := by omega
 have hGim : ¬ (G = i + 1) := by omega
 clear hgr hP hP2 hdn hr1 hr2 hN1 hN2 hv1 hg1 hg2 hB1 hB2 hcur hcl hblk hx hW1e hW2e hROW hG hRl hRt hold hsz1 hz0 hz1 hz2 hi0
 have hz2 : ¬ ((i : Int) = (l.length : Int)) := by omega
 have hw1 : IntKind.i64.wrap ((i : Int) + 1) = (i : Int) + 1 := by rw [IntKind.wrap_i64]; omega
 have hb1 : (0 : Int) ≤ (i : Int) + 1 := by omega
 have htn : ((i : Int) + 1).toNat = i + 1 := by omega
 have hb4 : ¬ (l.length = i) := by omega
 have hil : i ≤ l.length := by omega
 go_enter Tryz.func118, Tryz.ntmps118
 go_wp2_with (first
   | (at_builtin; refine Lib.wpList_append_run _ rfl _ _ _ _ rfl _ _ rfl rfl _ _ (hrz _) ?_)
   | (at_builtin; refine wpList_copy_run _ rfl _ _ 24 24 rfl _ _ rfl rfl (hcp1 _ _) ?_))
 go_region_law (refine step_copy_run rfl _ _ 24 24 rfl _ _ (by simp [Act.eval, Act.put]) (by simp [Act.eval, Act.put]) (hcp2 _ _ _) ?_)
 go_wp2_with fail
 go_ret
 exact ⟨_, rfl, HF.out.1, HF.out.2⟩

/-- slices.Insert of one pair. -/
theorem insert_any (w : World) (base : Nat) (v : Value) (l : List Pr) (i : Nat) (x : Pr) (vb : Nat) (ho : PrRow w base v l) (hb : base ≤ w.heap.size) (hi : i ≤ l.length) (hl : l.length ≤ 100000) (hne : v.ownBlock ≠ some vb) (hx : w.heap[vb]? = some (.cells #[.string ⟨x.1.toArray⟩, .string ⟨x.2.toArray⟩] 46 (0, 0))) :
   Calls Tryz.prog 118 #[v, .int .i64 (i : Int), .slice (some ⟨vb, 0, none⟩) 1 1] w fun e w' => ∃ v', e = .returned v' ∧ PrRow w' base v' (l.take i ++ x :: l.drop i) ∧ Below base w w' := by
 rcases Nat.lt_or_ge i l.length with hlt | hge
 · rcases ho.2 with ⟨rfl, hn⟩ | ⟨g, cap, cur, rfl, hbase, hblk, q1, q2, q3, q4⟩
   · omega
   · rcases Nat.lt_or_ge l.length cap with hc | hc
     · exact insert_shift w base g cap cur l i x vb hbase hblk q2 q3 q4 hlt hc hl (fun e => hne (by rw [e]; rfl)) hx
     · obtain rfl : cap = l.length := by omega
       exact insert_grow w base g cur l i x vb hb hblk q3 q4 hlt hl hx
 · obtain rfl : i = l.length := by omega
   rw [List.take_of_length_le (Nat.le_refl _), List.drop_of_length_le (Nat.le_refl _)]
   exact insert_end w base v l x vb ho hb hl hx
end

section
open Go.RowKit Go.Sort

theorem step_append_eq {P : Program} {ops : Array Oper} {o : Oper} {a : Act} {w : World} {K : Act → World → Prop} {Q : Exit → Act → World → Prop} {E : Prop}
   (hg : o.guard = none) (d x : Operand) (dT sT : TypeId) (hop : o.op = Op.call { callee := Callee.builtin Builtin.append, args := #[d, x], argTypes := #[dT, sT] })
   (v u : Value) (hd : a.eval d = v) (hx : a.eval x = u) {v' : Value} {w' : World} (hr : (Builtin.append_ #[dT, sT] o.type #[v, u]).run P w = .ok v' w') (hK : K (a.put o.dst v') w') :
   if Region.wanted o (yielded ops a.tmps) = true then Oper.wp P o a w K Q else E := by
 have hw : Region.wanted o (yielded ops a.tmps) = true := by simp [Region.wanted, hg]
 rw [if_pos hw]
 unfold Oper.wp
 simp [execOp, hop, resolve, invoke, builtin, hd, hx, hr, Result.andThen]
 exact hK
theorem run_clear_pair (w : World) (ty : TypeId) (g o c : Nat) (cur : Array Value) (hg : w.heap[g]? = some (.cells cur 46 (0, 0))) (hfit : o + 2 ≤ cur.size) :
   (Builtin.clear_ #[24] ty #[.slice (some ⟨g, o, none⟩) 1 c]).run Tryz.prog w = .ok (.tuple #[]) (w.setRow g (cur.toList.take o ++ encP ([], []) ++ cur.toList.drop (o + 2)).toArray) := by
 have hst := run_storeCells_at Tryz.prog g o 46 (encP ([], [])) 0 cur w hg (by simpa [encP] using hfit) (one_prs [([], [])])
 have hv : ∀ W, (zeroValue 46).run Tryz.prog W = .ok (.agg #[.string ⟨#[]⟩, .string ⟨#[]⟩]) W := fun W => by kernel_rfl
 have hz : (Builtin.zeroCells (Value.agg #[.string ⟨#[]⟩, .string ⟨#[]⟩]).cells 1).toList = encP ([], []) := by
   simp [Builtin.zeroCells, Value.cells, encP]
   rfl
 simp only [Nat.add_zero] at hst
 have h2 : (encP ([], [])).length = 2 := rfl
 rw [h2] at hst
 simp [Builtin.clear_, run_underlying Tryz.underlying24, hv, hz, hst]

/-- What the move and the zero value leave in the row. -/
theorem del_row {cur : List Value} {l : List Pr} {i cap : Nat} (hi : i < l.length) (hc : l.length ≤ cap) (hcur : cur.length = cap * 2) (hl : cur.take (l.length * 2) = prsF l) :
   (((cur.take (i * 2) ++ prsF (l.drop (i + 1)) ++ cur.drop (i * 2 + (prsF (l.drop (i + 1))).length)).take ((l.length - 1) * 2) ++ encP ([], []) ++
     (cur.take (i * 2) ++ prsF (l.drop (i + 1)) ++ cur.drop (i * 2 + (prsF (l.drop (i + 1))).length)).drop ((l.length - 1) * 2 + 2)).take ((l.length - 1) * 2)) = prsF (l.eraseIdx i) ∧
   ((cur.take (i * 2) ++ prsF (l.drop (i + 1)) ++ cur.drop (i * 2 + (prsF (l.drop (i + 1))).length)).take ((l.length - 1) * 2) ++ encP ([], []) ++
     (cur.take (i * 2) ++ prsF (l.drop (i + 1)) ++ cur.drop (i * 2 + (prsF (l.drop (i + 1))).length)).drop ((l.length - 1) * 2 + 2)).length = cap * 2 ∧
   (cur.take (i * 2) ++ prsF (l.drop (i + 1)) ++ cur.drop (i * 2 + (prsF (l.drop (i + 1))).length)).length = cap * 2 := by
 have hd : (prsF (l.drop (i + 1))).length = (l.length - (i + 1)) * 2 := by rw [prsF_len, List.length_drop]
 have he : (encP ([], [])).length = 2 := rfl
 have hlen : (cur.take (i * 2) ++ prsF (l.drop (i + 1)) ++ cur.drop (i * 2 + (prsF (l.drop (i + 1))).length)).length = cap * 2 := by
   simp only [List.length_append, List.length_take, List.length_drop, hd, hcur]; omega
 have h1 : (cur.take (i * 2) ++ prsF (l.drop (i + 1)) ++ cur.drop (i * 2 + (prsF (l.drop (i + 1))).length)).take ((l.length - 1) * 2) = prsF (l.eraseIdx i) := by
   rw [List.take_append_of_le_length (by simp only [List.length_append, List.length_take, hd]; omega), List.take_of_length_le (by simp only [List.length_append, List.length_take, hd]; omega), List.eraseIdx_eq_take_drop_succ, prsF_append, prsF_take, ← hl, List.take_take, Nat.min_eq_left (by omega)]
 refine ⟨?_, ?_, hlen⟩
 · rw [List.append_assoc, List.take_append_of_le_length (by rw [List.length_take, hlen]; omega), List.take_take, Nat.min_self, h1]
 · simp only [List.length_append, List.length_drop, List.length_take, he, hd]
   simp only [List.length_append, List.length_drop, List.length_take, hcur, hd] at hlen
   omega

set_option maxRecDepth 100000 in
set_option maxHeartbeats 4000000 in
theorem delete_any (w : World) (base : Nat) (v : Value) (l : List Pr) (i : Nat) (ho : PrRow w base v l) (hi : i < l.length) (hl : l.length ≤ 100000) :
   Calls Tryz.prog 121 #[v, .int .i64 (i : Int), .int .i64 ((i : Int) + 1)] w fun e w' => ∃ v', e = .returned v' ∧ PrRow w' base v' (l.eraseIdx i) ∧ Below base w w' := by
 obtain ⟨i0, hi0, hz0, hz1, hz2⟩ := info_parts infoPr
 rcases ho.2 with ⟨rfl, hn⟩ | ⟨g, cap, cur, rfl, hbase, hblk, q1, q2, q3, q4⟩
 · omega
 have hP := prs_of_cells hblk q4
 have hdr := del_row hi q1 (by simpa using q3) q4
 have hdn : (prsF (l.drop (i + 1))).length = (l.length - (i + 1)) * 2 := by rw [prsF_len, List.length_drop]
 obtain ⟨r1, hr1⟩ : ∃ r1, r1 = cur.toList.take (i * 2) ++ prsF (l.drop (i + 1)) ++ cur.toList.drop (i * 2 + (prsF (l.drop (i + 1))).length) := ⟨_, rfl⟩
 obtain ⟨r2, hr2⟩ : ∃ r2, r2 = r1.take ((l.length - 1) * 2) ++ encP ([], []) ++ r1.drop ((l.length - 1) * 2 + 2) := ⟨_, rfl⟩
 rw [← hr1, ← hr2] at hdr
 -- the address of what is moved
 obtain ⟨A, hA, hsrc⟩ : ∃ A : Addr, (if cap = i + 1 then some (⟨g, 0, none⟩ : Addr) else some ⟨g, (i + 1) * 2, none⟩) = some A ∧ ∀ (j : Nat) (u : Value), (prsF (l.drop (i + 1)))[j]? = some u → w.drew.cell? (A.add j) = some u := by
   by_cases h : cap = i + 1
   · refine ⟨⟨g, 0, none⟩, by rw [if_pos h], fun j u hj => ?_⟩
     have : (prsF (l.drop (i + 1))).length = 0 := by rw [hdn]; omega
     rw [List.length_eq_zero_iff.1 this] at hj; cases hj
   · refine ⟨⟨g, (i + 1) * 2, none⟩, by rw [if_neg h], fun j u hj => ?_⟩
     rw [prsF_drop, List.getElem?_drop] at hj
     have := prs_news hP ((i + 1) * 2 + j) u hj
     rw [add_plain] at this ⊢
     rw [Nat.zero_add] at this
     exact this
 have hap : ∀ ty c, (Builtin.append_ #[24, 24] ty #[.slice (some ⟨g, 0, none⟩) i cap, .slice (some A) (l.length - (i + 1)) c]).run Tryz.prog w.drew = .ok (.slice (some ⟨g, 0, none⟩) (l.length - 1) cap) (w.drew.setRow g r1.toArray) := fun ty c => by
   have h := run_append_room (P := Tryz.prog) w.drew 24 ty 46 i0 Tryz.underlying24 hi0 g i cap cur hblk A (l.length - (i + 1)) c (prsF (l.drop (i + 1))) (by rw [hz1]; exact hdn) hsrc (one_prs _) (by omega) (by rw [hz1, hdn]; omega)
   rw [hz1, show i + (l.length - (i + 1)) = l.length - 1 by omega, ← hr1] at h
   exact h
 have hN1 := setRow_heap w.drew g cur r1.toArray 46 (0, 0) hblk
 have hB1 : Below base w (w.drew.setRow g r1.toArray) := below_setRow ((Below.refl base w).drew) hbase _
 obtain ⟨W1, hW1e⟩ : ∃ W1, W1 = w.drew.setRow g r1.toArray := ⟨_, rfl⟩
 rw [← hW1e] at hap hN1 hB1
 have hcl : ∀ ty c, (Builtin.clear_ #[24] ty #[.slice (some ⟨g, (l.length - 1) * 2, none⟩) 1 c]).run Tryz.prog W1 = .ok (.tuple #[]) (W1.setRow g r2.toArray) := fun ty c => by
   rw [run_clear_pair W1 ty g ((l.length - 1) * 2) c r1.toArray hN1 (by rw [List.size_toArray, hdr.2.2]; omega), hr2]
 have HF := Lib.hid (show PrRow (W1.setRow g r2.toArray) base (.slice (some ⟨g, 0, none⟩) (l.length - 1) cap) (l.eraseIdx i) ∧ Below base w (W1.setRow g r2.toArray) by
   have hle : (l.eraseIdx i).length = l.length - 1 := by rw [List.length_eraseIdx, if_pos hi]
   refine ⟨⟨prsF_len _, Or.inr ⟨g, cap, r2.toArray, by rw [hle], hbase, setRow_heap _ _ _ _ _ _ hN1, by rw [hle]; omega, q2, by rw [List.size_toArray]; exact hdr.2.1, ?_⟩⟩, below_setRow hB1 hbase _⟩
   rw [hle, ← hdr.1])
 have hcm2 : (cap : Int) ≤ 9223372036854775807 := by unfold maxLen at q2; omega
 clear hdr hP hdn hr1 hr2 hN1 hB1 q3 q4 hblk hW1e hsrc ho
 have hn1 : ((l.length - 1 : Nat) : Int) = (l.length : Int) - 1 := by omega
 have hw1 : IntKind.i64.wrap ((i : Int) + 1) = (i : Int) + 1 := by rw [IntKind.wrap_i64]; omega
 have hb1 : (0 : Int) ≤ (i : Int) + 1 := by omega
 have htn : ((i : Int) + 1).toNat = i + 1 := by omega
 have hone : l.length - (l.length - 1) = 1 := by omega
 have hil : i ≤ l.length := by omega
 have hic : i ≤ cap := by omega
 have hil1 : i + 1 ≤ l.length := by omega
 have hb2 : (l.length : Int) ≤ (cap : Int) := by omega
 have hb3 : (i : Int) + 1 ≤ (l.length : Int) := by omega
 go_enter Tryz.func121, Tryz.ntmps121
 go_wp2_with fail
 go_region_law (refine step_append_eq rfl _ _ 24 24 rfl _ _ (by simp [Act.eval, Act.put]) (by simp [Act.eval, Act.put]) (hap _ (cap - (i + 1))) ?_)
 go_wp2_with fail
 go_ret
 exact ⟨_, rfl, HF.out.1, HF.out.2⟩
end

section
open Go.RowKit Go.Sort
variable {z : Rest}

def dirP (org : Int) : Bool := decide (org = 3) || decide (org = 2)
/-- Whether a record of a data set can have a key. -/
def possP (z : Rest) (org : Int) (k : By) : Bool := if org = 3 then decide ((k.length : Int) = z.klen) else relB k

section
attribute [local go_sem ↓] loadDs_down
set_option maxRecDepth 100000 in
set_option maxHeartbeats 4000000 in
theorem direct_any (org fmt len blk : Int) (w : World) : Calls Tryz.prog 116 #[.agg (dsv z org fmt len blk)] w fun e w' => e = .returned (.bool (dirP org)) ∧ Below w.heap.size w w' := by
 have HB := Lib.hid (box_below0 w (dsv z org fmt len blk) 23)
 have c1 := cell_at (i := 1) (v := .int .i64 org) (heap_alloc_new w (.cells (dsv z org fmt len blk) 23)) rfl
 by_cases h3 : org = 3
 · subst h3
   go_enter Tryz.func116, Tryz.ntmps116
   go_wp2_with fail
   go_ret
   exact ⟨rfl, HB.out⟩
 · by_cases h2 : org = 2
   · subst h2
     go_enter Tryz.func116, Tryz.ntmps116
     go_wp2_with fail
     go_ret
     exact ⟨rfl, HB.out⟩
   · have H := Lib.hid (show dirP org = false by unfold dirP; rw [decide_eq_false h3, decide_eq_false h2]; rfl)
     have e3 : (org == 3) = false := by simpa using h3
     have e2 : (org == 2) = false := by simpa using h2
     go_enter Tryz.func116, Tryz.ntmps116
     go_wp2_with fail
     go_ret
     exact ⟨by rw [H.out]; rfl, HB.out⟩

set_option maxRecDepth 100000 in
set_option maxHeartbeats 4000000 in
theorem possible_any (org fmt len blk : Int) (k : By) (w : World) (hk : k.length ≤ 1000000) : Calls Tryz.prog 120 #[.agg (dsv z org fmt len blk), .string ⟨k.toArray⟩] w fun e w' => e = .returned (.bool (possP z org k)) ∧ Below w.heap.size w w' := by
 have HB := Lib.hid (box_below0 w (dsv z org fmt len blk) 23)
 have c1 := cell_at (i := 1) (v := .int .i64 org) (heap_alloc_new w (.cells (dsv z org fmt len blk) 23)) rfl
 have c6 := cell_at (i := 6) (v := .int .i64 z.klen) (heap_alloc_new w (.cells (dsv z org fmt len blk) 23)) rfl
 by_cases h3 : org = 3
 · subst h3
   have H := Lib.hid (show possP z 3 k = ((k.length : Int) == z.klen) by unfold possP; rw [if_pos rfl]; rfl)
   go_enter Tryz.func120, Tryz.ntmps120
   go_wp2_with fail
   go_ret
   exact ⟨by rw [H.out]; rfl, HB.out⟩
 · have e3 : (org == 3) = false := by simpa using h3
   have HP := Lib.hid (show possP z org k = relB k from if_neg h3)
   have HKN := Lib.hid (knum_any k (w.alloc (.cells (dsv z org fmt len blk) 23)) hk)
   cases hq : numB k with
   | none =>
     have H := Lib.hid (show possP z org k = false by rw [HP.out]; unfold relB numN; rw [hq]; rfl)
     have HN := Lib.hid (fun e (h : NumRet k e) => show e = .returned (.tuple #[.int .i64 0, .bool false]) by unfold NumRet numN at h; rw [hq] at h; exact h)
     clear hq
     go_enter Tryz.func120, Tryz.ntmps120
     go_wp2_with fail
     refine HKN.out.mono ?_
     rintro e w2 ⟨he, hb2⟩
     obtain rfl := HN.out e he
     have HB2 := Lib.hid (HB.out.trans (hb2.mono HB.out.size))
     clear c1 c6 hb2 he
     go_wp2_with fail
     go_ret
     exact ⟨by rw [H.out]; rfl, HB2.out⟩
   | some n =>
     have H := Lib.hid (show possP z org k = (decide (1 ≤ n) && decide (n ≤ 65536)) by rw [HP.out]; unfold relB numN; rw [hq]; rfl)
     have HN := Lib.hid (fun e (h : NumRet k e) => show e = .returned (.tuple #[.int .i64 (n : Int), .bool true]) by unfold NumRet numN at h; rw [hq] at h; exact h)
     clear hq
     by_cases h1 : 1 ≤ n
     · have d1 : decide ((1 : Int) ≤ (n : Int)) = true := by simp; omega
       by_cases h2 : n ≤ 65536
       · have d2 : decide ((n : Int) ≤ 65536) = true := by simp; omega
         have HE := Lib.hid (show possP z org k = true by rw [H.out]; simp [h1, h2])
         go_enter Tryz.func120, Tryz.ntmps120
         go_wp2_with fail
         refine HKN.out.mono ?_
         rintro e w2 ⟨he, hb2⟩
         obtain rfl := HN.out e he
         have HB2 := Lib.hid (HB.out.trans (hb2.mono HB.out.size))
         clear c1 c6 hb2 he
         go_wp2_with fail
         go_ret
         exact ⟨by rw [HE.out]; rfl, HB2.out⟩
       · have d2 : decide ((n : Int) ≤ 65536) = false := by simp; omega
         have HE := Lib.hid (show possP z org k = false by rw [H.out]; simp [h2])
         go_enter Tryz.func120, Tryz.ntmps120
         go_wp2_with fail
         refine HKN.out.mono ?_
         rintro e w2 ⟨he, hb2⟩
         obtain rfl := HN.out e he
         have HB2 := Lib.hid (HB.out.trans (hb2.mono HB.out.size))
         clear c1 c6 hb2 he
         go_wp2_with fail
         go_ret
         exact ⟨by rw [HE.out]; rfl, HB2.out⟩
     · have d1 : decide ((1 : Int) ≤ (n : Int)) = false := by simp; omega
       have HE := Lib.hid (show possP z org k = false by rw [H.out]; simp [h1])
       go_enter Tryz.func120, Tryz.ntmps120
       go_wp2_with fail
       refine HKN.out.mono ?_
       rintro e w2 ⟨he, hb2⟩
       obtain rfl := HN.out e he
       have HB2 := Lib.hid (HB.out.trans (hb2.mono HB.out.size))
       clear c1 c6 hb2 he
       go_wp2_with fail
       go_ret
       exact ⟨by rw [HE.out]; rfl, HB2.out⟩
end
end

end Go.Proofs.YtckpepfkfjdnhaaGreatDoor

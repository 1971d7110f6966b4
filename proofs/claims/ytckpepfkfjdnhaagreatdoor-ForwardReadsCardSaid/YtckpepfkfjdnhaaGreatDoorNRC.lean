/-
  Walk: a reader of contents is made. Conditions: the contents in memory, not too many.
  Plain: going on from key to key through the pairs of a valid content. No walk.
-/
import Derived.Test.YtckpepfkfjdnhaaGreatDoorNRA
import Derived.Test.YtckpepfkfjdnhaaGreatDoorNX
import Derived.Test.YtckpepfkfjdnhaaGreatDoorNZ
import Derived.Test.YtckpepfkfjdnhaaGreatDoorNL9
namespace Go.Proofs.YtckpepfkfjdnhaaGreatDoor

section
open Go.RowKit Go.Sort

/-- The cells of contents, one behind the other. -/
def flatC : List Co → List Value
  | [] => []
  | x :: l => x.cs.toList ++ flatC l
theorem flatC_len : ∀ l : List Co, (flatC l).length = l.length * 23
  | [] => rfl
  | x :: l => by rw [flatC, List.length_append, flatC_len l, List.length_cons]; simp; omega
theorem flatC_append : ∀ l m : List Co, flatC (l ++ m) = flatC l ++ flatC m
  | [], _ => rfl
  | x :: l, m => by rw [List.cons_append, flatC, flatC, flatC_append l m, List.append_assoc]
theorem flatC_get : ∀ (l : List Co) (i : Nat) (h : i < l.length) (j : Nat) (v : Value), l[i].cs.toList[j]? = some v → (flatC l)[i * 23 + j]? = some v
  | x :: l, 0, _, j, v, hv => by
    have hj : j < x.cs.toList.length := (List.getElem?_eq_some_iff.1 hv).1
    rw [flatC, Nat.zero_mul, Nat.zero_add, List.getElem?_append_left hj]; exact hv
  | x :: l, i + 1, h, j, v, hv => by
    rw [flatC, List.getElem?_append_right (by simp; omega)]
    have : (i + 1) * 23 + j - x.cs.toList.length = i * 23 + j := by simp; omega
    rw [this]
    exact flatC_get l i (by simpa using h) j v hv
theorem one_flatC : ∀ l : List Co, ∀ u ∈ flatC l, u.oneCell' = true
  | [], _, h => by cases h
  | x :: l, u, h => by
    rcases List.mem_append.1 h with h | h
    · have := one_con (z := x.z) (org := x.org) (fmt := x.fmt) (len := x.len) (blk := x.blk) (ap := x.ap) (a := x.a) (n := x.l.length) (c := x.cap)
      rw [Array.all_eq_true_iff_forall_mem] at this
      exact this u (by simpa using h)
    · exact one_flatC l u h
theorem infoCo : (Tryz.prog.info? 26).map (fun i => (i.zero, i.size, i.bytes)) = some (some (.agg conZ), 23, 216) := by kernel_rfl
/-- A row of contents that a call owns. -/
def CoRow (w : World) (base : Nat) (v : Value) (l : List Co) : Prop := w.ownsRow base 26 23 v l.length (flatC l)
theorem cons_of_row {w : World} {base : Nat} {v : Value} {l : List Co} (h : CoRow w base v l) (hp : ∀ x ∈ l, Prs w w.heap.size x.a x.l ∧ x.l.length ≤ x.cap ∧ x.cap ≤ maxLen) : ∃ a cap, v = .slice a l.length cap ∧ l.length ≤ cap ∧ cap ≤ maxLen ∧ Cons w w.heap.size a l := by
  rcases h.2 with ⟨rfl, hn⟩ | ⟨g, cap, cur, rfl, hbase, hblk, q1, q2, q3, q4⟩
  · have : l = [] := List.length_eq_zero_iff.1 (by simpa using hn)
    subst this; exact ⟨none, 0, rfl, Nat.le_refl _, by simp, cons_nil _ _ _⟩
  · refine ⟨_, cap, rfl, q1, q2, ⟨fun _ => ⟨g, 0, rfl, lt_of_block hblk, fun i hi j v hv => ?_⟩, hp⟩⟩
    have e := flatC_get l i hi j v hv
    rw [← q4, List.getElem?_take] at e
    split at e
    · rw [Nat.zero_add, cell_of_row w g _ cur 26 (0, 0) hblk]
      simpa using e
    · cases e
/-- A row of pairs stays where no row of pairs is written. -/
theorem prrow_keep {w w' : World} {base : Nat} {v : Value} {l : List Pr} (h : PrRow w base v l) (hk : ∀ (g : Nat) (cur : Array Value), w.heap[g]? = some (.cells cur 46 (0, 0)) → w'.heap[g]? = w.heap[g]?) : PrRow w' base v l := by
  refine ⟨h.1, ?_⟩
  rcases h.2 with h0 | ⟨g, cap, cur, h1, h2, h3, h4⟩
  · exact Or.inl h0
  · exact Or.inr ⟨g, cap, cur, h1, h2, (hk g cur h3).trans h3, h4⟩
theorem coBlock {w : World} {base : Nat} {v : Value} {l : List Co} (h : CoRow w base v l) {g : Nat} {cur : Array Value} (hg : w.heap[g]? = some (.cells cur 46 (0, 0))) : some g ≠ v.ownBlock := by
  rcases h.2 with ⟨rfl, _⟩ | ⟨g', cap, cur', rfl, _, hblk, _⟩
  · simp [Value.ownBlock]
  · simp only [Value.ownBlock, ne_eq, Option.some.injEq]
    intro e
    rw [e, hblk] at hg
    injection hg with hg
    injection hg with _ ht _
    exact absurd ht (by decide)
variable {ops : Array Oper} {rest : List Oper} {o : Oper} {a : Act} {Q : Exit → Act → World → Prop} {w : World}
theorem wpList_append_co (hgd : o.guard = none) (s x : Operand) (ty : TypeId) (hty : Tryz.prog.underlying ty = some (.slice 26)) (ho : o.op = .call { callee := .builtin .append, args := #[s, x], argTypes := #[ty, ty] })
    (base : Nat) (v : Value) (l : List Co) (y : Co) (hs : a.eval s = v) (hown : CoRow w base v l) (g : Nat) (hx : a.eval x = .slice (some ⟨g, 0, none⟩) 1 1) (t : TypeId) (hm : w.heap[g]? = some (.cells y.cs t (0, 0))) (hlen : l.length ≤ 1000000) (hbase : base ≤ w.heap.size)
    (h : ∀ v' w', CoRow w' base v' (l ++ [y]) → w.grownBy w' v.ownBlock → wpList Tryz.prog ops Q rest (a.put o.dst v') w') : wpList Tryz.prog ops Q (o :: rest) a w := by
  obtain ⟨i0, hi0, hz0, hz1, hz2⟩ := info_parts infoCo
  refine wpList_plain hgd fun K hK => ?_
  obtain ⟨v', w', h1, h2, h3, h4⟩ := run_append_own (P := Tryz.prog) w base ty o.type 26 i0 (.agg conZ) 23 216 hty hi0 hz0 hz1 hz2 rfl (by decide) v l.length (flatC l) hown ⟨g, 0, none⟩ 1 1 (flatC [y]) (flatC_len [y]) (by
    intro j u hu
    have e : flatC [y] = y.cs.toList := by simp [flatC]
    rw [e] at hu
    rw [add_plain, Nat.zero_add, cell_of_row w g j y.cs t (0, 0) hm]
    simpa using hu) (one_flatC [y]) (by simp only [maxLen]; omega) (by omega) hbase
  unfold Oper.wp
  simp [execOp, ho, resolve, invoke, builtin, hs, hx, h1, Result.andThen]
  refine hK _ _ (h v' w' ?_ h3)
  unfold CoRow
  rw [List.length_append, flatC_append]
  exact h2

/-- What a content is read for. -/
abbrev Co.kl (x : Co) : Rest × List Pr := (x.z, x.l)
theorem pairs_kl {id : Int} {cs ys : List Co} (h : ys.map Co.kl = cs.map Co.kl) : pairsP id ys = pairsP id cs := by
  have e : ∀ l : List Co, pairsP id l = match (l.map Co.kl).find? (fun p => decide (p.1.id = id)) with
      | some p => p.2
      | none => [] := by
    intro l
    unfold pairsP
    rw [List.find?_map]
    have : ((fun p : Rest × List Pr => decide (p.1.id = id)) ∘ Co.kl) = fun x : Co => decide (x.z.id = id) := rfl
    rw [this]
    cases l.find? (fun x : Co => decide (x.z.id = id)) <;> rfl
  rw [e ys, e cs, h]

section
attribute [local go_sem ↓] loadCo_down storeCo_down
set_option maxRecDepth 100000 in
set_option maxHeartbeats 4000000 in
theorem reader_any (w : World) (B : Nat) (a : Option Addr) (cap : Nat) (cs : List Co) (h : Cons w B a cs) (hB : B ≤ w.heap.size) (hl : ∀ x ∈ cs, x.l.length ≤ 1000000) (hn : cs.length ≤ 100000) :
    Calls Tryz.prog 26 #[.slice a cs.length cap] w fun e w' => ∃ a5 c5 ys, e = .returned (.iface 103 (.slice a5 ys.length c5)) ∧ Cons w' w'.heap.size a5 ys ∧ ys.map Co.kl = cs.map Co.kl ∧ Below w.heap.size w w' := by
  have HS := Lib.hid h
  have hown : CoRow w w.heap.size (.slice none 0 0) [] := ⟨rfl, Or.inl ⟨rfl, rfl⟩⟩
  have HO0 := Lib.hid hown
  clear h hown
  go_enter Tryz.func26, Tryz.ntmps26
  go_wp2_with fail
  go_loopw [3, 8] (fun v k wr => ∃ (j : Nat) (ys : List Co), j ≤ cs.length ∧ k = .int .i64 j ∧ ys.map Co.kl = (cs.take j).map Co.kl ∧ CoRow wr w.heap.size v ys ∧ (∀ y ∈ ys, PrRow wr w.heap.size (.slice y.a y.l.length y.cap) y.l) ∧ Below w.heap.size w wr) (fun _ k _ => cs.length - (intOf k).toNat)
  case atStart => exact ⟨0, [], by omega, rfl, rfl, HO0.out, (fun y hy => by cases hy), Below.refl _ _⟩
  case round =>
    obtain ⟨j, ys, hj, rfl, hk, hO, hP, hb⟩ := hrel
    have HB := Lib.hid hb
    have HO := Lib.hid hO
    have HP := Lib.hid hP
    have HK := Lib.hid hk
    have hyl := congrArg List.length hk
    simp only [List.length_map, List.length_take] at hyl
    have HYL := Lib.hid hyl
    clear hb hO hP hk hyl
    by_cases hlt : j < cs.length
    · have jI : (j : Int) < (cs.length : Int) := by omega
      obtain ⟨b, off, rfl, hbb, hat⟩ := HS.out.get hlt
      have ld := (hat.below (HB.out.mono hB) hbb).load
      have hpr := (HS.out.prs _ (List.getElem_mem hlt)).1.below (HB.out.mono hB)
      have hlj := hl _ (List.getElem_mem hlt)
      have HT := Lib.hid (show (cs.take (j + 1)).map Co.kl = (cs.take j).map Co.kl ++ [(cs[j].z, cs[j].l)] by rw [List.take_succ_eq_append_getElem hlt, List.map_append]; rfl)
      clear hat
      generalize cs[j] = x at ld hpr hlj HT
      obtain ⟨z, org, fmt, len, blk, ap, xa, xc, L⟩ := x
      simp only at hpr hlj HT
      obtain ⟨w1, hst1, hw1, hb1⟩ := put_co wr z org fmt len blk ap xa L.length xc
      have HW1 := Lib.hid hw1
      have HB1 := Lib.hid hb1
      have c22 := cell_at (i := 22) (v := .slice xa L.length xc) hw1 rfl
      have hcl := clone_any w1 B xa xc L (hpr.below (hb1.mono (Nat.le_trans hB HB.out.size))) (Nat.le_trans hB (Nat.le_trans HB.out.size hb1.size)) hlj
      have HCL := Lib.hid hcl
      clear hw1 hb1 hcl hpr
      go_wp2_with fail
      refine HCL.out.mono ?_
      rintro e w2 ⟨v2, rfl, ho2, hb2⟩
      obtain ⟨a2, c2, rfl, hl2, hm2, hp2⟩ := prs_of_row ho2
      have hw2 := heap_below hb2 (lt_of_block HW1.out) HW1.out
      have f22 := frozen_of_row _ _ 22 _ _ hw2
      have d22 := cell_at (i := 22) (v := .slice xa L.length xc) hw2 rfl
      obtain ⟨w3, hw3⟩ : ∃ w3, w3 = w2.setCell ⟨wr.heap.size, 22, none⟩ (.slice a2 L.length c2) := ⟨_, rfl⟩
      have hx3 : w3.heap[wr.heap.size]? = some (.cells (conC z org fmt len blk ap a2 L.length c2) 26 (0, 0)) := by rw [hw3]; exact heap_setCell_same _ _ 22 _ _ _ hw2
      have lc3 := loadCo_at hx3 rfl
      have hother : ∀ (g : Nat) (cur : Array Value), w2.heap[g]? = some (.cells cur 46 (0, 0)) → w3.heap[g]? = w2.heap[g]? := by
        intro g cur hg
        rw [hw3]
        refine heap_setCell_other _ _ _ _ (fun e => ?_)
        have e' : g = wr.heap.size := e
        rw [e', hw2] at hg
        injection hg with hg
        injection hg with _ ht _
        exact absurd ht (by decide)
      have hb3 : Below wr.heap.size wr w3 := by rw [hw3]; exact (HB1.out.trans (hb2.mono HB1.out.size)).setCell (Nat.le_refl _) _
      have HP3 := Lib.hid (prrow_keep (own_mono ho2 (Nat.le_trans HB.out.size HB1.out.size)) hother)
      subst hw3
      have HB3 := Lib.hid hb3
      clear ho2 hb2 hl2 hm2 hp2 hw2 hx3 hother hb3 ld
      have HY := Lib.hid (show CoRow ((w2.setCell ⟨wr.heap.size, 22, none⟩ (.slice a2 L.length c2)).alloc (.cells (conC z org fmt len blk ap a2 L.length c2) 26)) w.heap.size u3 ys from own_below HO.out (HB3.out.alloc HB3.out.size _))
      have HB4 := Lib.hid (show Below wr.heap.size wr ((w2.setCell ⟨wr.heap.size, 22, none⟩ (.slice a2 L.length c2)).alloc (.cells (conC z org fmt len blk ap a2 L.length c2) 26)) from HB3.out.alloc HB3.out.size _)
      have HBK := Lib.hid (show ((w2.setCell ⟨wr.heap.size, 22, none⟩ (.slice a2 L.length c2)).alloc (.cells (conC z org fmt len blk ap a2 L.length c2) 26)).heap[w2.heap.size]? = some (.cells (Co.cs ⟨z, org, fmt, len, blk, ap, a2, c2, L⟩) 26 (0, 0)) by rw [show w2.heap.size = (w2.setCell ⟨wr.heap.size, 22, none⟩ (.slice a2 L.length c2)).heap.size by simp]; exact heap_alloc_new _ _)
      go_wp2_with (at_builtin; refine wpList_append_co rfl _ _ 103 Tryz.underlying103 rfl w.heap.size u3 ys ⟨z, org, fmt, len, blk, ap, a2, c2, L⟩ rfl HY.out w2.heap.size rfl 26 HBK.out (by have := HYL.out; omega) (Nat.le_trans HB.out.size HB4.out.size) ?_)
      intro v5 w5 ho5 hg5
      have HO5 := Lib.hid ho5
      have HG5 := Lib.hid hg5
      have HN5 := Lib.hid (fun (g : Nat) (cur : Array Value) (hg : ((w2.setCell ⟨wr.heap.size, 22, none⟩ (.slice a2 L.length c2)).alloc (.cells (conC z org fmt len blk ap a2 L.length c2) 26)).heap[g]? = some (.cells cur 46 (0, 0))) => hg5.block g (lt_of_block hg) (coBlock HY.out hg))
      have HB5 := Lib.hid ((HB.out.trans (HB4.out.mono HB.out.size)).grown hg5 (Nat.le_trans HB.out.size HB4.out.size) (fun k hk => row_own HY.out hk))
      have HP5 := Lib.hid (show ∀ y ∈ ys ++ [(⟨z, org, fmt, len, blk, ap, a2, c2, L⟩ : Co)], PrRow w5 w.heap.size (.slice y.a y.l.length y.cap) y.l by
        intro y hy
        refine prrow_keep (w := (w2.setCell ⟨wr.heap.size, 22, none⟩ (.slice a2 L.length c2)).alloc (.cells (conC z org fmt len blk ap a2 L.length c2) 26)) ?_ HN5.out
        rcases List.mem_append.1 hy with hy | hy
        · exact own_below (HP.out y hy) HB4.out
        · obtain rfl := List.mem_singleton.1 hy
          exact own_below HP3.out (box_below _ _ _))
      have HK5 := Lib.hid (show (ys ++ [(⟨z, org, fmt, len, blk, ap, a2, c2, L⟩ : Co)]).map Co.kl = (cs.take (j + 1)).map Co.kl by rw [HT.out, List.map_append, HK.out]; rfl)
      clear ho5 hg5 lc3 f22 d22
      go_wp2_with fail
      go_roundw
      case rel => exact ⟨j + 1, _, by omega, by go_num, HK5.out, HO5.out, HP5.out, HB5.out⟩
      case measure => simp [intOf]; omega
    · have jI : ¬ (j : Int) < (cs.length : Int) := by omega
      obtain rfl : j = cs.length := by omega
      have HF := Lib.hid (cons_of_row HO.out (fun y hy => by
        obtain ⟨a9, c9, he, h1, h2, h3⟩ := prs_of_row (HP.out y hy)
        injection he with he1 he2 he3
        subst he1 he3
        exact ⟨h3, h1, h2⟩))
      obtain ⟨a9, c9, rfl, h1, h2, h3⟩ := HF.out
      have HC9 := Lib.hid h3
      have HK9 := Lib.hid (show ys.map Co.kl = cs.map Co.kl by have := HK.out; rwa [List.take_length] at this)
      clear h1 h2 h3 HF HO HK
      go_wp2_with fail
      go_ret
      exact ⟨a9, c9, ys, rfl, HC9.out, HK9.out, HB.out⟩
end
end

section
open Go.RowKit Go.Sort
variable {z : Rest}

theorem key_some {org fmt len blk ap : Int} {l : List Pr} (h : valP z org fmt len blk ap l = true) : ∀ p ∈ l, p.1 ≠ [] := by
  intro p hp
  obtain ⟨i, hi, rfl⟩ := List.getElem_of_mem hp
  have hv := (val_pairs h).2
  unfold valL at hv
  rw [decide_eq_true_iff] at hv
  have hs := hv i hi
  unfold stepP at hs
  simp only [Bool.and_eq_true, decide_eq_true_eq] at hs
  obtain ⟨⟨hal, _⟩, hw⟩ := hs
  generalize l[i] = q at hal hw
  rcases desc_org (val_desc h) with rfl | rfl | rfl | rfl
  · unfold wantP at hw
    rw [if_pos rfl] at hw
    intro e
    have := congrArg List.length hw
    rw [slot_len, e] at this; simp at this
  · unfold wantP at hw
    rw [if_neg (by decide), if_pos rfl] at hw
    intro e
    have := congrArg List.length hw
    rw [next_len, e] at this; simp at this
  · unfold alP at hal
    rw [if_neg (by decide), if_pos rfl] at hal
    simp only [Bool.and_eq_true] at hal
    intro e
    rw [e] at hal
    exact absurd hal.1 (by decide)
  · unfold alP at hal
    rw [if_pos rfl] at hal
    simp only [decide_eq_true_eq] at hal
    have hk := desc_keyed (val_desc h)
    unfold kvalP at hk
    rw [if_pos rfl] at hk
    simp only [Bool.and_eq_true, inP, decide_eq_true_eq] at hk
    have := keyOf_len hal
    intro e
    rw [e] at this
    simp only [List.length_nil] at this
    omega
theorem next_first {l : List Pr} (h : ∀ p ∈ l, p.1 ≠ []) : nextL [] l = match l[0]? with | some p => (p.1, p.2, 0) | none => ([], [], 6) := by
  have hp : posL [] l = 0 := posL_at (Nat.zero_le _) (by simp) (fun q => by cases h' : l[0].1 <;> simp [Op.bytesLess])
  have hh : hasL [] l = false := by
    unfold hasL
    rw [hp]
    cases l with
    | nil => rfl
    | cons p l => simpa using h p (by simp)
  unfold nextL
  rw [hh, hp]
  rfl
theorem next_after {l : List Pr} (h : Rise l) {j : Nat} (hj : j < l.length) : nextL l[j].1 l = match l[j + 1]? with | some p => (p.1, p.2, 0) | none => ([], [], 6) := by
  have hp : posL l[j].1 l = j := posL_at (Nat.le_of_lt hj) (fun x hx => by
    obtain ⟨i, hi, rfl⟩ := List.mem_take_iff_getElem.1 hx
    exact (List.pairwise_iff_getElem.1 h) i j (by omega) hj (by omega)) (fun q => less_irrefl _)
  have hh : hasL l[j].1 l = true := by
    unfold hasL
    rw [hp, List.getElem?_eq_getElem hj]
    simp
  unfold nextL
  rw [hh, hp]
  rfl
/-- The key ahead of a pair. -/
def keyAt (l : List Pr) (j : Nat) : By := match j with
  | 0 => []
  | j + 1 => (l[j]?.map Prod.fst).getD []
theorem keyAt_succ {l : List Pr} {j : Nat} (hj : j < l.length) : keyAt l (j + 1) = l[j].1 := by
  show (l[j]?.map Prod.fst).getD [] = l[j].1
  rw [List.getElem?_eq_getElem hj]; rfl
theorem next_at {l : List Pr} (h : Rise l) (hn : ∀ p ∈ l, p.1 ≠ []) {j : Nat} (hj : j ≤ l.length) : nextL (keyAt l j) l = match l[j]? with | some p => (p.1, p.2, 0) | none => ([], [], 6) := by
  match j with
  | 0 => exact next_first hn
  | j + 1 => rw [keyAt_succ (by omega)]; exact next_after h (by omega)
end

end Go.Proofs.YtckpepfkfjdnhaaGreatDoor

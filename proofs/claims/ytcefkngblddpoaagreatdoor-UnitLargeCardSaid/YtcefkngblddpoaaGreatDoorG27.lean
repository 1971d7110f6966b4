/-
  Rows of structs that a call owns, for structs of any length: reading them, and an append of one. No condition but lengths.
  Frames of structures whose blocks may grow. No walk, no condition.
-/
import Derived.Test.YtcefkngblddpoaaGreatDoorG26
import Derived.Maps.AppendAt
import Derived.Maps.OwnIn
namespace Go.Proofs.YtcefkngblddpoaaGreatDoor

section
open Go.RowKit Go.Sort
/-- How a struct lies, cell by cell. -/
structure Enc {α : Type} (P : Program) (enc : α → Array Value) (t e : TypeId) (z : Nat) : Prop where
 ht : P.underlying t = some (.slice e)
 hi : ∃ i zv, P.info? e = some i ∧ i.zero = some zv ∧ i.size = z ∧ i.bytes ≤ 100 ∧ zv.cells.size = z ∧ 0 < z
 len : ∀ x, (enc x).size = z
 one : ∀ x, ∀ u ∈ (enc x).toList, u.oneCell' = true
section
variable {α : Type} {P : Program} {enc : α → Array Value} {t e : TypeId} {z : Nat}
def flatE (enc : α → Array Value) (l : List α) : List Value := l.flatMap fun x => (enc x).toList
theorem flatE_app (enc : α → Array Value) (l m : List α) : flatE enc (l ++ m) = flatE enc l ++ flatE enc m := by simp [flatE]
theorem flatE_len (E : Enc P enc t e z) : ∀ l : List α, (flatE enc l).length = l.length * z
 | [] => by simp [flatE]
 | x :: l => by
   have h1 := flatE_len E l
   have h2 := E.len x
   unfold flatE at h1 ⊢
   rw [List.flatMap_cons, List.length_append, h1, List.length_cons, Array.length_toList, h2, Nat.add_mul]; omega
theorem flatE_get (E : Enc P enc t e z) : ∀ (l : List α) (i : Nat) (hi : i < l.length) (j : Nat), j < z → (flatE enc l)[i * z + j]? = (enc l[i])[j]?
 | x :: l, 0, _, j, hj => by
   have h2 := E.len x
   unfold flatE
   rw [List.flatMap_cons, List.getElem?_append_left (by rw [Array.length_toList, h2]; omega)]
   simp
 | x :: l, i + 1, hi, j, hj => by
   have h2 := E.len x
   have ih := flatE_get E l i (by simpa using hi) j hj
   unfold flatE at ih ⊢
   rw [List.flatMap_cons, List.getElem?_append_right (by rw [Array.length_toList, h2, Nat.add_mul]; omega), Array.length_toList, h2, Nat.add_mul]
   rw [show i * z + 1 * z + j - z = i * z + j by omega, ih]
   rfl
def RowE (enc : α → Array Value) (e : TypeId) (z : Nat) (w : World) (base : Nat) (v : Value) (l : List α) : Prop := w.ownsRow base e z v l.length (flatE enc l)
theorem RowE.nil (w : World) (base : Nat) : RowE enc e z w base (.slice none 0 0) [] := own_nil _ _ _ _
theorem RowE.below {w w' : World} {base : Nat} {v : Value} {l : List α} (h : RowE enc e z w base v l) (hb : Below w.heap.size w w') : RowE enc e z w' base v l := own_below h hb
theorem RowE.only {w w' : World} {base : Nat} {v : Value} {l : List α} {S : List Nat} (h : RowE enc e z w base v l) (ho : Only S w w') (hs : ∀ k, v.ownBlock = some k → k ∉ S) : RowE enc e z w' base v l := own_only h ho hs
theorem RowE.mono {w : World} {base base' : Nat} {v : Value} {l : List α} (h : RowE enc e z w base v l) (hb : base' ≤ base) : RowE enc e z w base' v l := own_mono h hb
theorem RowE.cells (E : Enc P enc t e z) {w : World} {base : Nat} {v : Value} {l : List α} (h : RowE enc e z w base v l) : ∃ a cap, v = .slice a l.length cap ∧ l.length ≤ cap ∧ cap ≤ maxLen ∧
 (l ≠ [] → ∃ g, a = some ⟨g, 0, none⟩ ∧ v.ownBlock = some g ∧ base ≤ g ∧ g < w.heap.size ∧ ∀ i (hi : i < l.length) j u, (enc l[i])[j]? = some u → w.cell? ⟨g, i * z + j, none⟩ = some u) := by
 rcases h.2 with ⟨rfl, hn⟩ | ⟨g, cap, cur, rfl, hbase, hblk, q1, q2, q3, q4⟩
 · have : l = [] := List.length_eq_zero_iff.1 (by simpa using hn)
   subst this; exact ⟨none, 0, rfl, Nat.le_refl _, by simp, fun h => absurd rfl h⟩
 · refine ⟨_, cap, rfl, q1, q2, fun _ => ⟨g, rfl, rfl, hbase, lt_of_block hblk, fun i hi j u hu => ?_⟩⟩
   have hj : j < z := by
    have := (Array.getElem?_eq_some_iff.1 hu).1
    rwa [E.len] at this
   have e1 := flatE_get E l i hi j hj
   rw [← q4, List.getElem?_take, if_pos (by
    have : i * z + z ≤ l.length * z := by rw [← Nat.succ_mul]; exact Nat.mul_le_mul_right _ hi
    omega)] at e1
   rw [cell_of_row w g _ cur e (0, 0) hblk]
   rw [hu] at e1
   simpa using e1
theorem RowE.spell (E : Enc P enc t e z) {w : World} {base : Nat} {v : Value} {l : List α} (h : RowE enc e z w base v l) : ∃ a cap, v = .slice a l.length cap := by
 obtain ⟨a, cap, hv, _⟩ := h.cells E
 exact ⟨a, cap, hv⟩
/-- An append of one struct that lies in a block of its own. -/
theorem run_append_one (E : Enc P enc t e z) (w : World) (base : Nat) (ty : TypeId) (v : Value) (l : List α) (x : α) (hown : RowE enc e z w base v l) (g : Nat) {cs : Array Value} {t' : TypeId} {fr : Nat × Nat} (hg : w.heap[g]? = some (.cells cs t' fr)) (hcs : cs = enc x) (hlen : l.length ≤ 1000000) (hbase : base ≤ w.heap.size) :
 ∃ v' w', (Builtin.append_ #[t, t] ty #[v, .slice (some ⟨g, 0, none⟩) 1 1]).run P w = .ok v' w' ∧ RowE enc e z w' base v' (l ++ [x]) ∧ w.grownBy w' v.ownBlock ∧ (v'.ownBlock = v.ownBlock ∨ v'.ownBlock = some w.heap.size) := by
 subst hcs
 obtain ⟨i, zv, hi, hz, hs, hby, hzs, h0⟩ := E.hi
 obtain ⟨v', w', h1, h2, h3, _, h5⟩ := run_append_own_at (P := P) (w := w) base t ty e i zv z i.bytes E.ht hi hz hs rfl hzs h0 v l.length (flatE enc l) hown ⟨g, 0, none⟩ 1 1 (enc x).toList (by rw [Array.length_toList, E.len]; omega) (news_at hg) (E.one x) (by simp only [maxLen]; omega) (by
  have : (l.length + 1) * i.bytes ≤ 1000001 * 100 := Nat.mul_le_mul (by omega) hby
  omega) hbase
 refine ⟨v', w', h1, ?_, h3, h5⟩
 show w'.ownsRow base e z v' (l ++ [x]).length (flatE enc (l ++ [x]))
 rw [List.length_append, flatE_app]
 have e1 : flatE enc [x] = (enc x).toList := by simp [flatE]
 rw [e1]
 exact h2
theorem wpList_append_one {ops : Array Oper} {rest : List Oper} {o : Oper} {a : Act} {Q : Exit → Act → World → Prop} {w : World} (hgd : o.guard = none) (s x : Operand) (ho : o.op = .call { callee := .builtin .append, args := #[s, x], argTypes := #[t, t] }) (E : Enc P enc t e z)
 (base : Nat) (v : Value) (l : List α) (y : α) (hs : a.eval s = v) (hown : RowE enc e z w base v l) (g : Nat) {cs : Array Value} {t' : TypeId} {fr : Nat × Nat} (hx : a.eval x = .slice (some ⟨g, 0, none⟩) 1 1) (hg : w.heap[g]? = some (.cells cs t' fr)) (hcs : cs = enc y) (hlen : l.length ≤ 1000000) (hbase : base ≤ w.heap.size)
 (h : ∀ v' w', RowE enc e z w' base v' (l ++ [y]) → w.grownBy w' v.ownBlock → (v'.ownBlock = v.ownBlock ∨ v'.ownBlock = some w.heap.size) → wpList P ops Q rest (a.put o.dst v') w') : wpList P ops Q (o :: rest) a w := by
 refine wpList_plain hgd fun K hK => ?_
 obtain ⟨v', w', hr, h2, h3, h4⟩ := run_append_one E w base o.type v l y hown g hg hcs hlen hbase
 unfold Oper.wp execOp
 simp only [ho, resolve, invoke, builtin, Sem.run_bind, Sem.run_pure, Result.andThen_ok, List.map_toArray, List.map_cons, List.map_nil, hs, hx, hr]
 exact hK _ _ (h v' w' h2 h3 h4)
theorem step_append_one {ops : Array Oper} {o : Oper} {a : Act} {K : Act → World → Prop} {Q : Exit → Act → World → Prop} {E' : Prop} {w : World} (hg' : o.guard = none) (s x : Operand) (ho : o.op = .call { callee := .builtin .append, args := #[s, x], argTypes := #[t, t] }) (E : Enc P enc t e z)
 (base : Nat) (v : Value) (l : List α) (y : α) (hs : a.eval s = v) (hown : RowE enc e z w base v l) (g : Nat) {cs : Array Value} {t' : TypeId} {fr : Nat × Nat} (hx : a.eval x = .slice (some ⟨g, 0, none⟩) 1 1) (hg : w.heap[g]? = some (.cells cs t' fr)) (hcs : cs = enc y) (hlen : l.length ≤ 1000000) (hbase : base ≤ w.heap.size)
 (h : ∀ v' w', RowE enc e z w' base v' (l ++ [y]) → w.grownBy w' v.ownBlock → (v'.ownBlock = v.ownBlock ∨ v'.ownBlock = some w.heap.size) → K (a.put o.dst v') w') : if Region.wanted o (yielded ops a.tmps) = true then Oper.wp P o a w K Q else E' := by
 have hw : Region.wanted o (yielded ops a.tmps) = true := by simp [Region.wanted, hg']
 rw [if_pos hw]
 obtain ⟨v', w', hr, h2, h3, h4⟩ := run_append_one E w base o.type v l y hown g hg hcs hlen hbase
 unfold Oper.wp
 simp [execOp, ho, resolve, invoke, builtin, hs, hx, hr, Result.andThen]
 exact h v' w' h2 h3 h4
end
end

section
set_option linter.unusedSimpArgs false
set_option linter.unusedVariables false
open Go.RowKit Go.Sort
/-- Only the blocks S are written; of the blocks S' behind it those that are not of S are new. -/
structure Mv (S : List Nat) (w : World) (S' : List Nat) (w' : World) : Prop where
 only : Only S w w'
 new : ∀ x ∈ S', x ∈ S ∨ (w.heap.size ≤ x ∧ x < w'.heap.size)
theorem Mv.refl (S : List Nat) (w : World) : Mv S w S w := ⟨Only.refl _ _, fun _ h => Or.inl h⟩
theorem Mv.of_below {S : List Nat} {w w' : World} (h : Below w.heap.size w w') : Mv S w S w' := ⟨Only.of_below h, fun _ h => Or.inl h⟩
theorem Mv.trans {S T U : List Nat} {a b c : World} (h : Mv S a T b) (k : Mv T b U c) : Mv S a U c := by
 refine ⟨h.only.then k.only (fun x hx => (h.new x hx).imp id (fun q => q.1)), fun x hx => ?_⟩
 rcases k.new x hx with hx | hx
 · rcases h.new x hx with hx | hx
   · exact Or.inl hx
   · exact Or.inr ⟨hx.1, Nat.lt_of_lt_of_le hx.2 k.only.size⟩
 · exact Or.inr ⟨Nat.le_trans h.only.size hx.1, hx.2⟩
theorem Mv.step {S T : List Nat} {a b c : World} (h : Mv S a T b) (k : Below b.heap.size b c) : Mv S a T c := h.trans (Mv.of_below k)
/-- What lies apart stays apart. -/
theorem Mv.apart {S S' T : List Nat} {w w' : World} (h : Mv S w S' w') (hT : ∀ x ∈ T, x ∉ S ∧ x < w.heap.size) : ∀ x ∈ T, x ∉ S' := fun x hx hm => by
 rcases h.new x hm with q | q
 · exact (hT x hx).1 q
 · have := (hT x hx).2; omega
end

end Go.Proofs.YtcefkngblddpoaaGreatDoor

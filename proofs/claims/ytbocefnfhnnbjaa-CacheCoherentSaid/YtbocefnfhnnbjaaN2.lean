/-
  The pool of pages: slices.DeleteFunc, asked by the closure that strikes places from the map. No condition.
-/
import Derived.Test.YtbocefnfhnnbjaaN1
import Derived.Lib.SliceRun
namespace Go.Proofs.Ytbocefnfhnnbjaa
open Go.RowKit Go.Sort

theorem zero104 (w : World) : (zeroValue 104).run Try.prog w = .ok (.agg #[.int .i64 0, .int .i64 0]) w := by kernel_rfl
theorem run_clear_pl (w : World) (ty : TypeId) (b o n c : Nat) (hn : 0 < n) (hc : ∀ j, j < n * 2 → (w.cell? ⟨b, o + j, none⟩).isSome = true) (hf : ∀ j, j < n * 2 → w.frozen? ⟨b, o + j, none⟩ = false) :
    ∃ zl, (Builtin.clear_ #[91] ty #[.slice (some ⟨b, o, none⟩) n c]).run Try.prog w = .ok (.tuple #[]) (w.setCells b o zl) := by
  refine ⟨(Builtin.zeroCells #[.int .i64 0, .int .i64 0] n).toList, ?_⟩
  have hlen : (Builtin.zeroCells #[.int .i64 0, .int .i64 0] n).toList.length = n * 2 := by simp [Builtin.zeroCells]
  have hone : ∀ v ∈ (Builtin.zeroCells #[.int .i64 0, .int .i64 0] n).toList, v.oneCell' = true := by
    intro v hv
    unfold Builtin.zeroCells at hv
    rw [Array.toList_map, List.mem_map] at hv
    obtain ⟨i, _, rfl⟩ := hv
    rcases (show i % (#[Value.int .i64 0, Value.int .i64 0] : Array Value).size = 0 ∨ i % (#[Value.int .i64 0, Value.int .i64 0] : Array Value).size = 1 from by
      have : (#[Value.int .i64 0, Value.int .i64 0] : Array Value).size = 2 := rfl
      rw [this]; omega) with h | h <;> rw [h] <;> rfl
  have hst := run_storeCells_cells (P := Try.prog) b o (Builtin.zeroCells #[.int .i64 0, .int .i64 0] n).toList 0 w (by intro j hj; simpa using hc j (by omega)) (by intro j hj; simpa using hf j (by omega)) hone
  simp only [Nat.add_zero] at hst
  obtain ⟨m, rfl⟩ : ∃ m, n = m + 1 := ⟨n - 1, by omega⟩
  simp [Builtin.clear_, run_underlying Try.underlying91, hst, Value.cells]

section
variable {P : Program} {w : World} {ops : Array Oper} {rest : List Oper} {o : Oper} {a : Act} {Q : Exit → Act → World → Prop}
theorem wpList_clear {T : TypeId} (hg : o.guard = none) (x : Operand) (hop : o.op = Op.call { callee := Callee.builtin Builtin.clear, args := #[x], argTypes := #[T] }) (v : Value) (hx : a.eval x = v) (w' : World)
    (hrun : (Builtin.clear_ #[T] o.type #[v]).run P w = .ok (.tuple #[]) w') (hK : wpList P ops Q rest (a.put o.dst (.tuple #[])) w') : wpList P ops Q (o :: rest) a w := by
  refine wpList_plain hg fun K' hK' => ?_
  unfold Oper.wp
  simp [execOp, hop, resolve, invoke, builtin, hx, hrun, Result.andThen]
  exact hK' _ _ hK
end

theorem idxF_spec (acc : Pl → Bool) : ∀ (O : List Pl) (n : Nat), match idxF acc O n with
    | some k => ∃ i, k = n + i ∧ ∃ h : i < O.length, acc O[i] = true ∧ ∀ x ∈ O.take i, acc x = false
    | none => ∀ x ∈ O, acc x = false
  | [], n => by simp [idxF]
  | x :: O, n => by
    have ih := idxF_spec acc O (n + 1)
    rw [idxF]
    by_cases h : acc x = true
    · rw [if_pos h]
      exact ⟨0, rfl, by simp, by simpa using h, by simp⟩
    · rw [if_neg h]
      have hf : acc x = false := by simpa using h
      cases hi : idxF acc O (n + 1) with
      | some k =>
        rw [hi] at ih
        obtain ⟨i, h1, h2, h3, h4⟩ := ih
        refine ⟨i + 1, by omega, by simpa using h2, by simpa using h3, fun y hy => ?_⟩
        rw [List.take_succ_cons] at hy
        rcases List.mem_cons.1 hy with rfl | hy
        · exact hf
        · exact h4 y hy
      | none =>
        rw [hi] at ih
        intro y hy
        rcases List.mem_cons.1 hy with rfl | hy
        · exact hf
        · exact ih y hy
/-- The map without the places that were struck. -/
def Struck (acc : Pl → Bool) (O : List Pl) (M M' : List (Pl × Ct)) : Prop := ∀ k, alook M' k = if k ∈ O ∧ acc k = true then none else alook M k
theorem Struck.nil {acc : Pl → Bool} {M : List (Pl × Ct)} {O : List Pl} (h : ∀ x ∈ O, acc x = false) : Struck acc O M M := fun k => by
  rw [if_neg (fun e => by rw [h k e.1] at e; exact absurd e.2 (by simp))]
theorem Struck.step {acc : Pl → Bool} {M M' : List (Pl × Ct)} {O : List Pl} (h : Struck acc O M M') (x : Pl) : Struck acc (O ++ [x]) M (if acc x = true then adel M' x else M') := fun k => by
  by_cases hx : acc x = true
  · rw [if_pos hx, alook_adel]
    by_cases hk : x = k
    · subst hk
      rw [if_pos rfl, if_pos ⟨by simp, hx⟩]
    · rw [if_neg hk, h k]
      have : (k ∈ O ++ [x] ∧ acc k = true) ↔ (k ∈ O ∧ acc k = true) := by
        rw [List.mem_append, List.mem_singleton]
        exact ⟨fun e => ⟨e.1.resolve_right (fun q => hk q.symm), e.2⟩, fun e => ⟨Or.inl e.1, e.2⟩⟩
      by_cases hc : k ∈ O ∧ acc k = true
      · rw [if_pos hc, if_pos (this.2 hc)]
      · rw [if_neg hc, if_neg (fun e => hc (this.1 e))]
  · rw [if_neg hx, h k]
    have : (k ∈ O ++ [x] ∧ acc k = true) ↔ (k ∈ O ∧ acc k = true) := by
      rw [List.mem_append, List.mem_singleton]
      exact ⟨fun e => ⟨e.1.resolve_right (fun q => by subst q; exact hx e.2), e.2⟩, fun e => ⟨Or.inl e.1, e.2⟩⟩
    by_cases hc : k ∈ O ∧ acc k = true
    · rw [if_pos hc, if_pos (this.2 hc)]
    · rw [if_neg hc, if_neg (fun e => hc (this.1 e))]

theorem tk_snoc {α : Type} (l : List α) (j : Nat) (h : j < l.length) : l.take (j + 1) = l.take j ++ [l[j]] := by simp
/-- Where the loop stands: i places kept, j looked at, the row, the map. -/
structure DelSt (acc : Pl → Bool) (O : List Pl) (M : List (Pl × Ct)) (i j : Nat) (cur : List Pl) (M' : List (Pl × Ct)) : Prop where
  len : cur.length = O.length
  ij : i < j
  jn : j ≤ O.length
  kept : cur.take i = (O.take j).filter (fun x => !acc x)
  keptl : ((O.take j).filter (fun x => !acc x)).length = i
  rest : cur.drop j = O.drop j
  map : Struck acc (O.take j) M M'
theorem DelSt.at {acc : Pl → Bool} {O cur : List Pl} {M M' : List (Pl × Ct)} {i j : Nat} (h : DelSt acc O M i j cur M') (hj : j < O.length) : cur[j]'(by rw [h.len]; exact hj) = O[j] := by
  have h1 : (cur.drop j)[0]? = (O.drop j)[0]? := by rw [h.rest]
  rw [List.getElem?_drop, List.getElem?_drop, Nat.add_zero, List.getElem?_eq_getElem (by rw [h.len]; exact hj), List.getElem?_eq_getElem hj] at h1
  exact Option.some.inj h1
theorem DelSt.skip {acc : Pl → Bool} {O cur : List Pl} {M M' : List (Pl × Ct)} {i j : Nat} (h : DelSt acc O M i j cur M') (hj : j < O.length) (ha : acc O[j] = true) : DelSt acc O M i (j + 1) cur (adel M' O[j]) := by
  have ht := tk_snoc O j hj
  have hf : (O.take (j + 1)).filter (fun x => !acc x) = (O.take j).filter (fun x => !acc x) := by rw [ht, List.filter_append]; simp [ha]
  refine ⟨h.len, Nat.lt_succ_of_lt h.ij, hj, by rw [hf]; exact h.kept, by rw [hf]; exact h.keptl, ?_, ?_⟩
  · rw [← List.drop_drop, ← List.drop_drop, h.rest]
  · have := h.map.step O[j]
    rw [if_pos ha, ← ht] at this
    exact this
theorem DelSt.keep {acc : Pl → Bool} {O cur : List Pl} {M M' : List (Pl × Ct)} {i j : Nat} (h : DelSt acc O M i j cur M') (hj : j < O.length) (ha : acc O[j] = false) : DelSt acc O M (i + 1) (j + 1) (cur.set i O[j]) M' := by
  have ht := tk_snoc O j hj
  have hf : (O.take (j + 1)).filter (fun x => !acc x) = (O.take j).filter (fun x => !acc x) ++ [O[j]] := by rw [ht, List.filter_append]; simp [ha]
  have hil : i < cur.length := by rw [h.len]; have := h.ij; omega
  refine ⟨by rw [List.length_set]; exact h.len, Nat.succ_lt_succ h.ij, hj, ?_, by rw [hf, List.length_append, h.keptl]; rfl, ?_, ?_⟩
  · rw [hf, ← h.kept, tk_snoc (cur.set i O[j]) i (by rw [List.length_set]; exact hil), List.take_set_of_le (Nat.le_refl _), List.getElem_set_self]
  · rw [List.drop_set_of_lt (by have := h.ij; omega), ← List.drop_drop, ← List.drop_drop, h.rest]
  · have := h.map.step O[j]
    rw [if_neg (by simp [ha]), ← ht] at this
    exact this

end Go.Proofs.Ytbocefnfhnnbjaa

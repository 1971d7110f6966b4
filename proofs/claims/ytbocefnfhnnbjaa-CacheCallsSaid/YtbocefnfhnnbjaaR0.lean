/-
  Slices of structs of three ints; append as a step of a region that draws its order. No condition.
-/
import Derived.Test.YtbocefnfhnnbjaaF1
import Derived.Laws.OwnMore
import Derived.Maps.AppendAt
import Derived.StillTailTactics
namespace Go.Proofs.Ytbocefnfhnnbjaa
open Go.RowKit Go.Sort

abbrev Tri := Int × Int × Int
def triC (x : Tri) : List Value := [.int .i64 x.1, .int .i64 x.2.1, .int .i64 x.2.2]
def flat3 : List Tri → List Value
  | [] => []
  | x :: l => triC x ++ flat3 l
theorem flat3_length (l : List Tri) : (flat3 l).length = l.length * 3 := by
  induction l with
  | nil => rfl
  | cons x l ih => show (triC x ++ flat3 l).length = _; rw [List.length_append, ih, List.length_cons]; simp [triC]; omega
theorem flat3_append (l m : List Tri) : flat3 (l ++ m) = flat3 l ++ flat3 m := by
  induction l with
  | nil => rfl
  | cons x l ih => show triC x ++ flat3 (l ++ m) = (triC x ++ flat3 l) ++ flat3 m; rw [ih, List.append_assoc]
theorem flat3_one (x : Tri) : flat3 [x] = [.int .i64 x.1, .int .i64 x.2.1, .int .i64 x.2.2] := rfl
theorem flat3_get (l : List Tri) (i : Nat) (h : i < l.length) (j : Nat) (hj : j < 3) : (flat3 l)[i * 3 + j]? = (triC l[i])[j]? := by
  induction l generalizing i with
  | nil => simp at h
  | cons x l ih =>
    show (triC x ++ flat3 l)[i * 3 + j]? = _
    cases i with
    | zero => rw [List.getElem?_append_left (by simp [triC]; omega)]; simp
    | succ i =>
      rw [List.getElem?_append_right (by simp [triC]; omega)]
      have : (i + 1) * 3 + j - (triC x).length = i * 3 + j := by simp [triC]; omega
      rw [this, ih i (by simpa using h)]; rfl
theorem flat3_one' (l : List Tri) : ∀ u ∈ flat3 l, u.oneCell' = true := by
  induction l with
  | nil => simp [flat3]
  | cons x l ih =>
    intro u hu
    rcases List.mem_append.1 (show u ∈ triC x ++ flat3 l from hu) with h | h
    · simp [triC] at h; rcases h with rfl | rfl | rfl <;> rfl
    · exact ih u h

/-- A slice of triples that lies below block B. -/
structure Tris (w : World) (B : Nat) (a : Option Addr) (l : List Tri) : Prop where
  cells : l ≠ [] → ∃ b off, a = some ⟨b, off, none⟩ ∧ b < B ∧ ∀ j u, (flat3 l)[j]? = some u → w.cell? ⟨b, off + j, none⟩ = some u
  wf : ∀ x ∈ l, okR x
theorem Tris.below {w w' : World} {B a l} (h : Tris w B a l) (hb : Below B w w') : Tris w' B a l :=
  ⟨fun hl => by obtain ⟨b, off, h1, h2, h3⟩ := h.cells hl; exact ⟨b, off, h1, h2, fun i u hi => (hb.cell (p := ⟨b, off + i, none⟩) h2).trans (h3 i u hi)⟩, h.wf⟩
theorem Tris.mono {w : World} {B B' a l} (h : Tris w B a l) (hB : B ≤ B') : Tris w B' a l :=
  ⟨fun hl => by obtain ⟨b, off, h1, h2, h3⟩ := h.cells hl; exact ⟨b, off, h1, by omega, h3⟩, h.wf⟩
theorem Tris.get {w : World} {B a l} (h : Tris w B a l) {i : Nat} (hi : i < l.length) : ∃ b off, a = some ⟨b, off, none⟩ ∧ b < B ∧
    w.cell? ⟨b, off + i * 3, none⟩ = some (.int .i64 l[i].1) ∧ w.cell? ⟨b, off + i * 3 + 1, none⟩ = some (.int .i64 l[i].2.1) ∧ w.cell? ⟨b, off + i * 3 + 2, none⟩ = some (.int .i64 l[i].2.2) := by
  obtain ⟨b, off, h1, h2, h3⟩ := h.cells (fun e => by rw [e] at hi; simp at hi)
  exact ⟨b, off, h1, h2, h3 (i * 3) _ (flat3_get l i hi 0 (by omega)), by rw [Nat.add_assoc]; exact h3 _ _ (flat3_get l i hi 1 (by omega)), by rw [Nat.add_assoc]; exact h3 _ _ (flat3_get l i hi 2 (by omega))⟩
theorem tris_nil (w : World) (B : Nat) (a : Option Addr) : Tris w B a [] := ⟨fun h => absurd rfl h, fun x hx => by simp at hx⟩
theorem tris_of_row {w : World} {base : Nat} {e : TypeId} {v : Value} {l : List Tri} (h : w.ownsRow base e 3 v l.length (flat3 l)) (hl : ∀ x ∈ l, okR x) : ∃ a cap, v = .slice a l.length cap ∧ Tris w w.heap.size a l := by
  rcases h.2 with ⟨rfl, hn⟩ | ⟨g, cap, cur, rfl, hbase, hblk, q1, q2, q3, q4⟩
  · have : l = [] := List.length_eq_zero_iff.1 hn
    subst this; exact ⟨none, 0, rfl, tris_nil _ _ _⟩
  · refine ⟨_, cap, rfl, fun _ => ⟨g, 0, rfl, lt_of_block hblk, fun j u hj => ?_⟩, hl⟩
    have hjl : j < l.length * 3 := by rw [← flat3_length]; exact (List.getElem?_eq_some_iff.1 hj).1
    rw [Nat.zero_add, cell_of_row w g j cur e (0, 0) hblk]
    rw [← q4, List.getElem?_take, if_pos hjl] at hj
    simpa using hj

section
variable {P : Program} {ops : Array Oper} {o : Oper} {a : Act} {w w' : World} {K : Act → World → Prop} {Q : Exit → Act → World → Prop} {E : Prop}
/-- append, whose run is known, as one step of a region that draws. -/
theorem step_append_run (hg : o.guard = none) (s x : Operand) (t : TypeId) (hop : o.op = Op.call { callee := Callee.builtin Builtin.append, args := #[s, x], argTypes := #[t, t] })
    (vs vx v' : Value) (hs : a.eval s = vs) (hx : a.eval x = vx) (hrun : (Builtin.append_ #[t, t] o.type #[vs, vx]).run P w = .ok v' w')
    (hK : K (a.put o.dst v') w') : if Region.wanted o (yielded ops a.tmps) = true then Oper.wp P o a w K Q else E := by
  have hw : Region.wanted o (yielded ops a.tmps) = true := by simp [Region.wanted, hg]
  rw [if_pos hw]
  unfold Oper.wp
  simp [execOp, hop, resolve, invoke, builtin, hs, hx, hrun, Result.andThen]
  exact hK
end

/-- What a slice of triples in new memory looks like while it grows: rows of type e. -/
theorem append_tris (w : World) (base B : Nat) (t e ty : TypeId) (i : TypeInfo) (z : Value) (ht : Try.prog.underlying t = some (.slice e)) (hi : Try.prog.info? e = some i) (hz : i.zero = some z) (hs : i.size = 3) (hy : i.bytes = 24) (hzs : z.cells.size = 3)
    (v : Value) (l : List Tri) (hown : w.ownsRow base e 3 v l.length (flat3 l)) (xa : Option Addr) (xc : Nat) (m : List Tri) (hx : Tris w B xa m) (hxn : m = [] → (∃ b off, xa = some ⟨b, off, none⟩) ∨ (xa = none ∧ xc = 0)) (hlen : l.length + m.length ≤ 1000000) (hbase : base ≤ w.heap.size) :
    ∃ v' w', (Builtin.append_ #[t, t] ty #[v, .slice xa m.length xc]).run Try.prog w = .ok v' w' ∧ w'.ownsRow base e 3 v' (l ++ m).length (flat3 (l ++ m)) ∧ w.grownBy w' v.ownBlock ∧ (v'.ownBlock = v.ownBlock ∨ v'.ownBlock = some w.heap.size) := by
  have main : ∀ ad : Addr, xa = some ad → (∀ j u, (flat3 m)[j]? = some u → w.cell? (ad.add j) = some u) → ∃ v' w', (Builtin.append_ #[t, t] ty #[v, .slice xa m.length xc]).run Try.prog w = .ok v' w' ∧ w'.ownsRow base e 3 v' (l ++ m).length (flat3 (l ++ m)) ∧ w.grownBy w' v.ownBlock ∧ (v'.ownBlock = v.ownBlock ∨ v'.ownBlock = some w.heap.size) := by
    intro ad hxa hnews
    subst hxa
    obtain ⟨v', w', h1, h2, h3, _, h5⟩ := run_append_own_at (P := Try.prog) w base t ty e i z 3 24 ht hi hz hs hy hzs (by decide) v l.length (flat3 l) hown ad m.length xc (flat3 m) (flat3_length m) hnews (flat3_one' m) (by simp only [maxLen]; omega) (by omega) hbase
    exact ⟨v', w', h1, by rw [List.length_append, flat3_append]; exact h2, h3, h5⟩
  by_cases hm : m = []
  · subst hm
    rcases hxn rfl with ⟨b, off, rfl⟩ | ⟨rfl, rfl⟩
    · exact main _ rfl (fun j u hj => by simp [flat3] at hj)
    · refine ⟨v, w, run_append_owned_none (P := Try.prog) w base t ty e i 3 ht hi v l.length (flat3 l) hown, by rw [List.append_nil]; exact hown, ⟨rfl, rfl, rfl, Nat.le_refl _, fun _ _ _ => rfl⟩, Or.inl rfl⟩
  · obtain ⟨b, off, rfl, _, hc⟩ := hx.cells hm
    exact main _ rfl (fun j u hj => by rw [add_plain]; exact hc j u hj)

end Go.Proofs.Ytbocefnfhnnbjaa

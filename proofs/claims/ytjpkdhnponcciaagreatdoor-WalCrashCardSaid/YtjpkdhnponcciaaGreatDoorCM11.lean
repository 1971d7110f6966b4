/-
  Appending a list of structs that lies in memory onto a row of one's own. Condition: the list lies in memory.
-/
import Derived.Test.YtjpkdhnponcciaaGreatDoorCM10
namespace Go.Proofs.YtjpkdhnponcciaaGreatDoor
open Go.RowKit Go.Sort

section
variable {α : Type} {P : Program} {enc : α → Array Value} {t e : TypeId} {z : Nat}
/-- The cells of a list that is appended. -/
def NewsE (enc : α → Array Value) (w : World) (a : Option Addr) (cap : Nat) (m : List α) : Prop :=
  (∃ p, a = some p ∧ ∀ (j : Nat) (u : Value), (flatE enc m)[j]? = some u → w.cell? (p.add j) = some u) ∨ (a = none ∧ cap = 0 ∧ m = [])
theorem NewsE.of (E : Enc P enc t e z) {w : World} {a : Option Addr} {cap : Nat} {m : List α} (hn : a = none → cap = 0)
    (h : m ≠ [] → ∃ b off, a = some ⟨b, off, none⟩ ∧ ∀ i (hi : i < m.length) j u, (enc m[i])[j]? = some u → w.cell? ⟨b, off + (i * z + j), none⟩ = some u) : NewsE enc w a cap m := by
  by_cases hm : m = []
  · subst hm
    cases a with
    | none => exact Or.inr ⟨rfl, hn rfl, rfl⟩
    | some p => exact Or.inl ⟨p, rfl, fun j u hj => by simp [flatE] at hj⟩
  · obtain ⟨b, off, rfl, hc⟩ := h hm
    refine Or.inl ⟨_, rfl, fun j u hj => ?_⟩
    have hz : 0 < z := by obtain ⟨_, _, _, _, _, _, _, h⟩ := E.hi; exact h
    have hl := (List.getElem?_eq_some_iff.1 hj).1
    rw [flatE_len E] at hl
    have hi : j / z < m.length := by rw [Nat.div_lt_iff_lt_mul hz]; exact hl
    have hr := Nat.mod_lt j hz
    have hjj : j / z * z + j % z = j := by rw [Nat.mul_comm]; exact Nat.div_add_mod j z
    have hg := flatE_get E m (j / z) hi (j % z) hr
    rw [hjj, hj] at hg
    have := hc (j / z) hi (j % z) u hg.symm
    rw [hjj] at this
    have ea : (⟨b, off, none⟩ : Addr).add j = ⟨b, off + j, none⟩ := by
      unfold Addr.add
      split
      · rename_i h0; subst h0; rfl
      · rfl
    rw [ea]
    exact this
theorem run_append_many (E : Enc P enc t e z) (w : World) (base : Nat) (ty : TypeId) (v : Value) (l m : List α) (a : Option Addr) (cap : Nat) (hown : RowE enc e z w base v l) (hm : NewsE enc w a cap m) (hlen : l.length + m.length ≤ 1000000) (hbase : base ≤ w.heap.size) :
    ∃ v' w', (Builtin.append_ #[t, t] ty #[v, .slice a m.length cap]).run P w = .ok v' w' ∧ RowE enc e z w' base v' (l ++ m) ∧ w.grownBy w' v.ownBlock := by
  obtain ⟨i, zv, hi, hz, hs, hby, hzs, h0⟩ := E.hi
  rcases hm with ⟨p, rfl, hc⟩ | ⟨rfl, rfl, rfl⟩
  · obtain ⟨v', w', h1, h2, h3, _, _⟩ := run_append_own_at (P := P) (w := w) base t ty e i zv z i.bytes E.ht hi hz hs rfl hzs h0 v l.length (flatE enc l) hown p m.length cap (flatE enc m) (flatE_len E m) hc (fun u hu => by
        unfold flatE at hu
        obtain ⟨x, _, hx⟩ := List.mem_flatMap.1 hu
        exact E.one x u hx) (by simp only [maxLen]; omega) (by
      have : (l.length + m.length) * i.bytes ≤ 1000000 * 100 := Nat.mul_le_mul hlen hby
      omega) hbase
    refine ⟨v', w', h1, ?_, h3⟩
    show w'.ownsRow base e z v' (l ++ m).length (flatE enc (l ++ m))
    rw [List.length_append, flatE_app]
    exact h2
  · refine ⟨v, w, run_append_owned_none (P := P) w base t ty e i z E.ht hi v l.length (flatE enc l) hown, by rw [List.append_nil]; exact hown, ⟨rfl, rfl, rfl, Nat.le_refl _, fun _ _ _ => rfl⟩⟩
theorem step_append_many {ops : Array Oper} {o : Oper} {a : Act} {K : Act → World → Prop} {Q : Exit → Act → World → Prop} {E' : Prop} {w : World} (hg' : o.guard = none) (s x : Operand) (ho : o.op = .call { callee := .builtin .append, args := #[s, x], argTypes := #[t, t] }) (E : Enc P enc t e z)
    (base : Nat) (v : Value) (l m : List α) (ad : Option Addr) (cap : Nat) (hs : a.eval s = v) (hown : RowE enc e z w base v l) (hx : a.eval x = .slice ad m.length cap) (hm : NewsE enc w ad cap m) (hlen : l.length + m.length ≤ 1000000) (hbase : base ≤ w.heap.size)
    (h : ∀ v' w', RowE enc e z w' base v' (l ++ m) → w.grownBy w' v.ownBlock → K (a.put o.dst v') w') : if Region.wanted o (yielded ops a.tmps) = true then Oper.wp P o a w K Q else E' := by
  have hw : Region.wanted o (yielded ops a.tmps) = true := by simp [Region.wanted, hg']
  rw [if_pos hw]
  obtain ⟨v', w', hr, h2, h3⟩ := run_append_many E w base o.type v l m ad cap hown hm hlen hbase
  unfold Oper.wp
  simp [execOp, ho, resolve, invoke, builtin, hs, hx, hr, Result.andThen]
  exact h v' w' h2 h3
end
theorem Chs.news {w : World} {B : Nat} {a : Option Addr} {cap : Nat} {l : List Ch} (h : Chs w B a l) (hn : a = none → cap = 0) : NewsE (fun x : Ch => x.cs) w a cap l :=
  NewsE.of encCh hn (fun hl => by
    obtain ⟨b, off, rfl, _, hc⟩ := h.cells hl
    refine ⟨b, off, rfl, fun i hi j u hu => ?_⟩
    obtain ⟨c0, c1, c2, c3, c4⟩ := hc i hi
    rw [← Nat.add_assoc]
    match j, hu with
    | 0, hu => cases hu; exact c0
    | 1, hu => cases hu; exact c1
    | 2, hu => cases hu; exact c2
    | 3, hu => cases hu; exact c3
    | 4, hu => cases hu; exact c4
    | j + 5, hu => simp at hu)
theorem Recs.news {w : World} {B : Nat} {a : Option Addr} {cap : Nat} {l : List Lr} (h : Recs w B a l) (hn : a = none → cap = 0) : NewsE (fun x : Lr => x.cs) w a cap l :=
  NewsE.of encLr hn (fun hl => by
    obtain ⟨b, off, rfl, _, hc⟩ := h.cells hl
    refine ⟨b, off, rfl, fun i hi j u hu => ?_⟩
    rw [← Nat.add_assoc]
    exact hc i hi j u (by simpa using hu))
theorem chrow_empty (w : World) {B : Nat} (hB : B ≤ w.heap.size) : ChRow (w.alloc (.cells #[] 94)) B (.slice (some ⟨w.heap.size, 0, none⟩) 0 0) [] :=
  ⟨rfl, Or.inr ⟨w.heap.size, 0, #[], rfl, hB, heap_alloc_new _ _, Nat.le_refl _, Nat.zero_le _, rfl, rfl⟩⟩
end Go.Proofs.YtjpkdhnponcciaaGreatDoor

/-
  append of ints and of triples as a step of a region that draws its order; the walk of Set. Condition of the contract: at most a million numbers.
-/
import Derived.Test.YtbocefnfhnnbjaaR5
namespace Go.Proofs.Ytbocefnfhnnbjaa
open Go.RowKit Go.Sort

section
variable {ops : Array Oper} {o : Oper} {a : Act} {w : World} {K : Act → World → Prop} {Q : Exit → Act → World → Prop} {E : Prop}
/-- append whose source lies in cells, onto a row in new memory. -/
theorem step_append_row (base : Nat) (e : TypeId) (i : TypeInfo) (z : Value) (size bytes : Nat) (hi : Try.prog.info? e = some i) (hz : i.zero = some z) (hsz : i.size = size) (hby : i.bytes = bytes) (hzs : z.cells.size = size) (h0 : 0 < size) (h24 : bytes ≤ 24)
    (hg : o.guard = none) (s x : Operand) (t : TypeId) (hop : o.op = Op.call { callee := Callee.builtin Builtin.append, args := #[s, x], argTypes := #[t, t] }) (ht : Try.prog.underlying t = some (.slice e))
    (vs : Value) (hs : a.eval s = vs) (n : Nat) (xs : List Value) (hown : w.ownsRow base e size vs n xs)
    (ad : Option Addr) (m c : Nat) (hx : a.eval x = .slice ad m c) (news : List Value) (hl : news.length = m * size)
    (hnews : (∃ p, ad = some p ∧ ∀ j u, news[j]? = some u → w.cell? (p.add j) = some u) ∨ (ad = none ∧ c = 0 ∧ m = 0)) (h1 : ∀ u ∈ news, u.oneCell' = true) (hlen : n + m ≤ 1000000) (hbase : base ≤ w.heap.size)
    (hK : ∀ v' w', w'.ownsRow base e size v' (n + m) (xs ++ news) → w.grownBy w' vs.ownBlock → K (a.put o.dst v') w') :
    if Region.wanted o (yielded ops a.tmps) = true then Oper.wp Try.prog o a w K Q else E := by
  rcases hnews with ⟨p, rfl, hc⟩ | ⟨rfl, rfl, rfl⟩
  · obtain ⟨v', w', hr, h2, h3, _, _⟩ := run_append_own_at (P := Try.prog) w base t o.type e i z size bytes ht hi hz hsz hby hzs h0 vs n xs hown p m c news hl hc h1 (by simp only [maxLen]; omega) (Nat.le_trans (Nat.mul_le_mul hlen h24) (by decide)) hbase
    exact step_append_run hg s x t hop _ _ _ hs hx hr (hK _ _ h2 h3)
  · have hn : news = [] := List.length_eq_zero_iff.1 (by rw [hl]; simp)
    subst hn
    exact step_append_run hg s x t hop _ _ _ hs hx (run_append_owned_none (P := Try.prog) w base t o.type e i size ht hi vs n xs hown) (hK _ _ (by rw [List.append_nil]; exact hown) ⟨rfl, rfl, rfl, Nat.le_refl _, fun _ _ _ => rfl⟩)
end

def insI : List Int → Int → List Int
  | [], x => [x]
  | a :: t, x => if a < x then a :: insI t x else if a = x then a :: t else x :: a :: t
def setI (l : List Int) : List Int := l.foldl insI []
theorem setI_snoc (l : List Int) (x : Int) : setI (l ++ [x]) = insI (setI l) x := by unfold setI; rw [List.foldl_append]; rfl
theorem insI_length (l : List Int) (x : Int) : (insI l x).length ≤ l.length + 1 := by
  induction l with
  | nil => simp [insI]
  | cons a t ih => unfold insI; split; · simp; exact ih
                   split <;> simp
theorem setI_length (l : List Int) : (setI l).length ≤ l.length := by
  have key : ∀ (l acc : List Int), (l.foldl insI acc).length ≤ acc.length + l.length := by
    intro l
    induction l with
    | nil => intro acc; simp
    | cons x l ih => intro acc; have h1 := ih (insI acc x); have h2 := insI_length acc x; simp only [List.foldl_cons, List.length_cons]; omega
  have := key l []
  simpa [setI] using this
theorem insI_found (l : List Int) (x : Int) (k : Nat) (hk : k < l.length) (hlt : ∀ i (h : i < l.length), i < k → l[i] < x) (he : l[k] = x) : insI l x = l := by
  induction l generalizing k with
  | nil => simp at hk
  | cons a t ih =>
    cases k with
    | zero => simp at he; subst he; simp [insI]
    | succ k =>
      have h0 := hlt 0 (by simp) (by omega)
      simp at h0
      unfold insI
      rw [if_pos h0, ih k (by simpa using hk) (fun i h hi => by have := hlt (i + 1) (by simpa using h) (by omega); simpa using this) (by simpa using he)]
theorem insI_put (l : List Int) (x : Int) (k : Nat) (hk : k ≤ l.length) (hlt : ∀ i (h : i < l.length), i < k → l[i] < x) (he : ∀ h : k < l.length, x < l[k]) : insI l x = l.take k ++ [x] ++ l.drop k := by
  induction l generalizing k with
  | nil => simp at hk; subst hk; rfl
  | cons a t ih =>
    cases k with
    | zero =>
      have h0 := he (by simp)
      simp at h0
      unfold insI
      rw [if_neg (by omega), if_neg (by omega)]; rfl
    | succ k =>
      have h0 := hlt 0 (by simp) (by omega)
      simp at h0
      unfold insI
      rw [if_pos h0, ih k (by simpa using hk) (fun i h hi => by have := hlt (i + 1) (by simpa using h) (by omega); simpa using this) (fun h => by have := he (by simpa using h); simpa using this)]
      simp
theorem insI_mem (l : List Int) (x y : Int) : y ∈ insI l x ↔ y ∈ l ∨ y = x := by
  induction l with
  | nil => simp [insI]
  | cons a t ih =>
    unfold insI
    split
    · rw [List.mem_cons, ih, List.mem_cons]; exact ⟨fun h => by rcases h with h | h | h <;> simp [h], fun h => by rcases h with (h | h) | h <;> simp [h]⟩
    · split
      · rename_i h; subst h; rw [List.mem_cons]; exact ⟨fun h => Or.inl h, fun h => by rcases h with h | h; exact h; exact Or.inl h⟩
      · rw [List.mem_cons]; exact ⟨fun h => by rcases h with h | h <;> simp [h], fun h => by rcases h with h | h <;> simp [h]⟩
theorem insI_sorted (l : List Int) (x : Int) (h : l.Pairwise (· < ·)) : (insI l x).Pairwise (· < ·) := by
  induction l with
  | nil => simp [insI]
  | cons a t ih =>
    rw [List.pairwise_cons] at h
    unfold insI
    split
    · rename_i h0
      rw [List.pairwise_cons]
      exact ⟨fun y hy => by rcases (insI_mem t x y).1 hy with h1 | h1; exact h.1 y h1; omega, ih h.2⟩
    · split
      · rw [List.pairwise_cons]; exact h
      · rename_i h1 h2
        rw [List.pairwise_cons, List.pairwise_cons]
        refine ⟨fun y hy => ?_, h⟩
        rcases List.mem_cons.1 hy with h3 | h3
        · omega
        · have := h.1 y h3; omega
theorem setI_mem (l : List Int) (y : Int) : y ∈ setI l ↔ y ∈ l := by
  have key : ∀ (l acc : List Int), y ∈ l.foldl insI acc ↔ y ∈ acc ∨ y ∈ l := by
    intro l
    induction l with
    | nil => intro acc; simp
    | cons x l ih => intro acc; rw [List.foldl_cons, ih, insI_mem, List.mem_cons]; exact or_assoc
  have := key l []
  simpa [setI] using this
theorem setI_sorted (l : List Int) : (setI l).Pairwise (· < ·) := by
  have key : ∀ (l acc : List Int), acc.Pairwise (· < ·) → (l.foldl insI acc).Pairwise (· < ·) := by
    intro l
    induction l with
    | nil => intro acc h; exact h
    | cons x l ih => intro acc h; exact ih _ (insI_sorted acc x h)
  exact key l [] List.Pairwise.nil

end Go.Proofs.Ytbocefnfhnnbjaa

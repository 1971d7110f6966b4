/-
  Rows of sector writes while they grow; texts in a row that nothing turns. No condition.
-/
import Derived.Test.YthkpcalopmddpaaDoorS22
import Derived.Test.YthkpcalopmddpaaDoorAR
import Derived.Test.YthkpcalopmddpaaDoorLD
namespace Go.Proofs.YthkpcalopmddpaaDoor
open Go.RowKit Go.Sort

/-- Writes as cells. -/
def wrC (x : Nat × By) : List Value := [.int .i64 x.1, sv x.2]
def flatW : List (Nat × By) → List Value
  | [] => []
  | x :: l => wrC x ++ flatW l
theorem flatW_append (a b : List (Nat × By)) : flatW (a ++ b) = flatW a ++ flatW b := by
  induction a with
  | nil => rfl
  | cons x a ih => show wrC x ++ flatW (a ++ b) = wrC x ++ flatW a ++ flatW b; rw [ih, List.append_assoc]
theorem flatW_length (l : List (Nat × By)) : (flatW l).length = l.length * 2 := by
  induction l with
  | nil => rfl
  | cons x l ih => show (wrC x ++ flatW l).length = _; rw [List.length_append, ih]; simp [wrC]; omega
theorem flatW_get (l : List (Nat × By)) (i : Nat) (h : i < l.length) : (flatW l)[i * 2]? = some (.int .i64 l[i].1) ∧ (flatW l)[i * 2 + 1]? = some (sv l[i].2) := by
  induction l generalizing i with
  | nil => simp at h
  | cons x l ih =>
    cases i with
    | zero => exact ⟨rfl, rfl⟩
    | succ i =>
      have := ih i (by simpa using h)
      have e : flatW (x :: l) = [.int .i64 x.1, sv x.2] ++ flatW l := rfl
      rw [e, show (i + 1) * 2 = i * 2 + 2 by omega, show i * 2 + 2 + 1 = i * 2 + 1 + 2 by omega, List.getElem?_append_right (by simp), List.getElem?_append_right (by simp)]
      simpa using this
theorem flatW_one (l : List (Nat × By)) : ∀ u ∈ flatW l, u.oneCell' = true := by
  induction l with
  | nil => simp [flatW]
  | cons x l ih =>
    intro u hu
    rcases List.mem_append.1 (show u ∈ wrC x ++ flatW l from hu) with h | h
    · simp [wrC, sv] at h; rcases h with rfl | rfl <;> rfl
    · exact ih u h
/-- The writes from a number on. -/
def wr1 : Nat → List By → List (Nat × By)
  | _, [] => []
  | i, d :: l => (i, d) :: wr1 (i + 1) l
theorem wr1_length : ∀ (l : List By) (i : Nat), (wr1 i l).length = l.length
  | [], _ => rfl
  | _ :: l, i => by simp [wr1, wr1_length l]
theorem wr1_append : ∀ (l : List By) (i : Nat) (d : By), wr1 i (l ++ [d]) = wr1 i l ++ [(i + l.length, d)]
  | [], _, _ => rfl
  | x :: l, i, d => by simp [wr1, wr1_append l (i + 1) d]; omega
theorem wr1_take (l : List By) (i j : Nat) (h : j < l.length) : wr1 i (l.take (j + 1)) = wr1 i (l.take j) ++ [(i + j, l[j])] := by
  rw [take_snoc' l j h, wr1_append, List.length_take, Nat.min_eq_left (by omega)]
def headB (n k s : Nat) : By := pad (num n ++ num k ++ num s)
/-- All writes of a data set. -/
def writesOf (n k : Nat) (S : By) : List (Nat × By) := (0, headB n k S.length) :: wr1 1 (secA S.length S)

theorem infoW : (Tryd.prog.info? 46).map (fun i => (i.zero, i.size, i.bytes)) = some (some (.agg #[.int .i64 0, .string ByteArray.empty]), 2, 24) := by kernel_rfl
theorem Only.cell {S : List Nat} {w w' : World} (h : Only S w w') {p : Addr} (hp : p.block < w.heap.size) (hn : p.block ∉ S) : w'.cell? p = w.cell? p := World.cell?_of_block (w := w) (h.block p.block hp hn)

/-- Texts in a row, from a block on. -/
structure StrsIn (w : World) (lo : Nat) (a : Option Addr) (l : List By) : Prop where
  cells : l ≠ [] → ∃ b, a = some ⟨b, 0, none⟩ ∧ lo ≤ b ∧ b < w.heap.size ∧ ∀ i (h : i < l.length), w.cell? ⟨b, i, none⟩ = some (.string ⟨l[i].toArray⟩)
theorem strsIn_of_row {w : World} {base : Nat} {e : TypeId} {v : Value} {l : List By} (h : w.ownsRow base e 1 v l.length (l.map sv)) : ∃ a cap, v = .slice a l.length cap ∧ StrsIn w base a l := by
  rcases h.2 with ⟨rfl, hn⟩ | ⟨g, cap, cur, rfl, hbase, hblk, q1, q2, q3, q4⟩
  · have : l = [] := List.length_eq_zero_iff.1 hn
    subst this; exact ⟨none, 0, rfl, ⟨fun h => absurd rfl h⟩⟩
  · refine ⟨_, cap, rfl, ⟨fun _ => ⟨g, rfl, hbase, lt_of_block hblk, fun i hi => ?_⟩⟩⟩
    rw [cell_of_row w g i cur e (0, 0) hblk]
    have hi2 : (l.map sv)[i]? = some (.string ⟨l[i].toArray⟩) := by simp [hi, sv]
    rw [← q4, Nat.mul_one, List.getElem?_take, if_pos hi] at hi2
    simpa using hi2
/-- A row of writes behind the world of w6, begun in block g. -/
structure BdSt (w6 : World) (g base : Nat) (W : World) (ws : List (Nat × By)) (v : Value) : Prop where
  only : Only [g] w6 W
  own : W.ownsRow base 46 2 v ws.length (flatW ws)
  blk : ∀ k, v.ownBlock = some k → k = g ∨ w6.heap.size ≤ k
theorem BdSt.text {w6 W : World} {g base : Nat} {ws : List (Nat × By)} {v : Value} (h : BdSt w6 g base W ws v) {lo : Nat} {a : Option Addr} {l : List By} (hs : StrsIn w6 lo a l) (hg : g < lo) {i : Nat} (hi : i < l.length) :
    ∃ b, a = some ⟨b, 0, none⟩ ∧ b < W.heap.size ∧ W.cell? ⟨b, i, none⟩ = some (.string ⟨l[i].toArray⟩) := by
  obtain ⟨b, h1, h2, h3, h4⟩ := hs.cells (fun e => by rw [e] at hi; simp at hi)
  exact ⟨b, h1, Nat.lt_of_lt_of_le h3 h.only.size, (h.only.cell (p := ⟨b, i, none⟩) h3 (by simp; omega)).trans (h4 i hi)⟩
theorem BdSt.step {w6 W W' W2 : World} {g base : Nat} {ws : List (Nat × By)} {v v' : Value} (h : BdSt w6 g base W ws v) (hW : Only [g] w6 W') (x : Nat × By) (hn : W'.heap.size = W.heap.size + 1)
    (ho : W2.ownsRow base 46 2 v' (ws.length + 1) (flatW ws ++ wrC x)) (hg : W'.grownBy W2 v.ownBlock) (hb : v'.ownBlock = v.ownBlock ∨ v'.ownBlock = some W'.heap.size) : BdSt w6 g base W2 (ws ++ [x]) v' :=
  ⟨hW.grown hg (fun k hk => by rcases h.blk k hk with h | h; exact Or.inl (by simp [h]); exact Or.inr h),
   by rw [List.length_append, flatW_append]; exact ho,
   fun k hk => by
    rcases hb with hb | hb
    · exact h.blk k (hb ▸ hk)
    · rw [hb] at hk; have := Option.some.inj hk; have := hW.size; exact Or.inr (by omega)⟩

/-- What Build and Format give. -/
structure WPost (w : World) (ws : List (Nat × By)) (k : Int) (e : Ending) (w' : World) : Prop where
  out : ∃ v, e = .returned (.tuple #[v, .int .i64 k]) ∧ w'.ownsRow w.heap.size 46 2 v ws.length (flatW ws)
  bel : Below w.heap.size w w'
theorem WPost.none {w w' : World} (k : Int) (h : Below w.heap.size w w') : WPost w [] k (.returned (.tuple #[.slice none 0 0, .int .i64 k])) w' :=
  ⟨⟨_, rfl, own_nil _ _ _ _⟩, h⟩

end Go.Proofs.YthkpcalopmddpaaDoor

/-
  append as a step of a region that draws its order; rows read as a source. No condition. Rows of sector writes while they grow; texts in a row that nothing turns. No condition.
  Walks: records with lengths of their own, packed by the reference. Conditions: valid sizes, at most 40000 records of at most the length.
  Walks: records that may be longer than a block, packed by the reference. Conditions: valid sizes, at most 40000 records of at most the length. Walks: the blocks of records of a description, by the reference. Conditions: valid sizes, at most 40000 records.
-/
import Derived.Test.YtjpkdhnponcciaaGreatDoorCZ1
import Derived.Test.YtjpkdhnponcciaaGreatDoorCZ2
import Derived.Laws.Rows
import Derived.StillTailTactics
namespace Go.Proofs.YtjpkdhnponcciaaGreatDoor

section
section
open Go.RowKit Go.Sort

section
variable {P : Program} {ops : Array Oper} {o : Oper} {a : Act} {w w' : World} {K : Act → World → Prop} {Q : Exit → Act → World → Prop} {E : Prop}
end

section
variable {ops : Array Oper} {o : Oper} {a : Act} {w : World} {K : Act → World → Prop} {Q : Exit → Act → World → Prop} {E : Prop}
end


/-- The source of an append: the values lie below block B, or there are none. -/
structure NewsAt (w : World) (B : Nat) (ad : Option Addr) (m c : Nat) (news : List Value) : Prop where
 src : (∃ p, ad = some p ∧ p.block < B ∧ ∀ (j : Nat) (u : Value), news[j]? = some u → w.cell? (p.add j) = some u) ∨ (ad = none ∧ c = 0 ∧ m = 0)
theorem NewsAt.out {w : World} {B : Nat} {ad : Option Addr} {m c : Nat} {news : List Value} (h : NewsAt w B ad m c news) : (∃ p, ad = some p ∧ ∀ (j : Nat) (u : Value), news[j]? = some u → w.cell? (p.add j) = some u) ∨ (ad = none ∧ c = 0 ∧ m = 0) := by
 rcases h.src with ⟨p, h1, _, h3⟩ | h
 · exact Or.inl ⟨p, h1, h3⟩
 · exact Or.inr h
theorem NewsAt.below {w w' : World} {B : Nat} {ad : Option Addr} {m c : Nat} {news : List Value} (h : NewsAt w B ad m c news) (hb : Below B w w') : NewsAt w' B ad m c news := by
 rcases h.src with ⟨p, h1, h2, h3⟩ | h
 · exact ⟨Or.inl ⟨p, h1, h2, fun j u hj => (hb.cell (p := p.add j) (by rw [block_of_add]; exact h2)).trans (h3 j u hj)⟩⟩
 · exact ⟨Or.inr h⟩
theorem NewsAt.mono {w : World} {B B' : Nat} {ad : Option Addr} {m c : Nat} {news : List Value} (h : NewsAt w B ad m c news) (hB : B ≤ B') : NewsAt w B' ad m c news := by
 rcases h.src with ⟨p, h1, h2, h3⟩ | h
 · exact ⟨Or.inl ⟨p, h1, by omega, h3⟩⟩
 · exact ⟨Or.inr h⟩
end

section
open Go.RowKit Go.Sort

/-- Writes as cells. -/
def wrC (x : Nat × By) : List Value := [.int .i64 x.1, sv x.2]
def flatW : List (Nat × By) → List Value
 | [] => []
 | x :: l => wrC x ++ flatW l
theorem flatW_append (a b : List (Nat × By)) : flatW (a ++ b) = flatW a ++ flatW b := by
 induction a with
 | nil => rfl
 | cons x a ih => show wrC x ++ flatW (a ++ b) = wrC x ++ flatW a ++ flatW b; rw [ih, List.append_assoc]
theorem Only.cell {S : List Nat} {w w' : World} (h : Only S w w') {p : Addr} (hp : p.block < w.heap.size) (hn : p.block ∉ S) : w'.cell? p = w.cell? p := World.cell?_of_block (w := w) (h.block p.block hp hn)

/-- Texts in a row, from a block on. -/
structure StrsIn (w : World) (lo : Nat) (a : Option Addr) (l : List By) : Prop where
 cells : l ≠ [] → ∃ b, a = some ⟨b, 0, none⟩ ∧ lo ≤ b ∧ b < w.heap.size ∧ ∀ i (h : i < l.length), w.cell? ⟨b, i, none⟩ = some (.string ⟨l[i].toArray⟩)
/-- A row of writes behind the world of w6, begun in block g. -/
structure BdSt (w6 : World) (g base : Nat) (W : World) (ws : List (Nat × By)) (v : Value) : Prop where
 only : Only [g] w6 W
 own : W.ownsRow base 135 2 v ws.length (flatW ws)
 blk : ∀ k, v.ownBlock = some k → k = g ∨ w6.heap.size ≤ k
theorem BdSt.text {w6 W : World} {g base : Nat} {ws : List (Nat × By)} {v : Value} (h : BdSt w6 g base W ws v) {lo : Nat} {a : Option Addr} {l : List By} (hs : StrsIn w6 lo a l) (hg : g < lo) {i : Nat} (hi : i < l.length) :
   ∃ b, a = some ⟨b, 0, none⟩ ∧ b < W.heap.size ∧ W.cell? ⟨b, i, none⟩ = some (.string ⟨l[i].toArray⟩) := by
 obtain ⟨b, h1, h2, h3, h4⟩ := hs.cells (fun e => by rw [e] at hi; simp at hi)
 exact ⟨b, h1, Nat.lt_of_lt_of_le h3 h.only.size, (h.only.cell (p := ⟨b, i, none⟩) h3 (by simp; omega)).trans (h4 i hi)⟩
theorem BdSt.step {w6 W W' W2 : World} {g base : Nat} {ws : List (Nat × By)} {v v' : Value} (h : BdSt w6 g base W ws v) (hW : Only [g] w6 W') (x : Nat × By) (hn : W'.heap.size = W.heap.size + 1)
   (ho : W2.ownsRow base 135 2 v' (ws.length + 1) (flatW ws ++ wrC x)) (hg : W'.grownBy W2 v.ownBlock) (hb : v'.ownBlock = v.ownBlock ∨ v'.ownBlock = some W'.heap.size) : BdSt w6 g base W2 (ws ++ [x]) v' :=
 ⟨hW.grown hg (fun k hk => by rcases h.blk k hk with h | h; exact Or.inl (by simp [h]); exact Or.inr h),
  by rw [List.length_append, flatW_append]; exact ho,
  fun k hk => by
   rcases hb with hb | hb
   · exact h.blk k (hb ▸ hk)
   · rw [hb] at hk; have := Option.some.inj hk; have := hW.size; exact Or.inr (by omega)⟩

/-- What Build and Format give. -/
structure WPost (w : World) (ws : List (Nat × By)) (k : Int) (e : Ending) (w' : World) : Prop where
 out : ∃ v, e = .returned (.tuple #[v, .int .i64 k]) ∧ w'.ownsRow w.heap.size 135 2 v ws.length (flatW ws)
 bel : Below w.heap.size w w'
theorem WPost.none {w w' : World} (k : Int) (h : Below w.heap.size w w') : WPost w [] k (.returned (.tuple #[.slice none 0 0, .int .i64 k])) w' :=
 ⟨⟨_, rfl, own_nil _ _ _ _⟩, h⟩
end
end

section
open Go.RowKit Go.Sort
attribute [local go_sem] ByteArray.mk_append_mk strOfNums_size ext_drop ext_take
end

section
section
open Go.RowKit Go.Sort
attribute [local go_sem] ByteArray.mk_append_mk strOfNums_size ext_drop ext_take

section
variable {ops : Array Oper} {o : Oper} {a : Act} {w : World} {K : Act → World → Prop} {Q : Exit → Act → World → Prop} {E : Prop}
end

end

section
open Go.RowKit Go.Sort
variable {z : Rest}

/-- PackPost by its results. -/
structure PackVal (w : World) (ok : Bool) (V : List By) (v : Value) (k : Int) (w' : World) : Prop where
 good : ok = true → k = 0 ∧ w'.ownsRow w.heap.size 9 1 v V.length (V.map sv)
 bad : ok = false → k = 2 ∧ v = .slice none 0 0
 bel : Below w.heap.size w w'
theorem PackPost.val {w w' : World} {ok : Bool} {V : List By} {e : Ending} (h : PackPost w ok V e w') : ∃ v k, e = .returned (.tuple #[v, .int .i64 k]) ∧ PackVal w ok V v k w' := by
 cases ok
 · exact ⟨_, _, h.bad rfl, (fun h => by cases h), fun _ => ⟨rfl, rfl⟩, h.bel⟩
 · obtain ⟨v, he, ho⟩ := h.good rfl
   exact ⟨_, _, he, fun _ => ⟨rfl, ho⟩, (fun h => by cases h), h.bel⟩
theorem PackVal.from {w w1 w' : World} {ok : Bool} {V : List By} {v : Value} {k : Int} (h : PackVal w1 ok V v k w') (hb : Below w.heap.size w w1) : PackVal w ok V v k w' :=
 ⟨fun e => ⟨(h.good e).1, own_mono (h.good e).2 hb.size⟩, h.bad, hb.trans (h.bel.mono hb.size)⟩
end
end

end Go.Proofs.YtjpkdhnponcciaaGreatDoor

/-
  append as a step of a region that draws its order; rows read as a source. No condition. Rows of sector writes while they grow; texts in a row that nothing turns. No condition.
-/
import Derived.Test.YtcefkngblddpoaaGreatDoorG2
import Derived.Test.YtcefkngblddpoaaGreatDoorG3
import Derived.Laws.Rows
import Derived.StillTailTactics
namespace Go.Proofs.YtcefkngblddpoaaGreatDoor
section
open Go.RowKit Go.Sort
section
variable {P : Program} {ops : Array Oper} {o : Oper} {a : Act} {w w' : World} {K : Act → World → Prop} {Q : Exit → Act → World → Prop} {E : Prop}
/-- append, whose run is known, as one step of a region that draws. -/
theorem step_append_run (hg : o.guard = none) (s x : Operand) (t : TypeId) (hop : o.op = Op.call { callee := Callee.builtin Builtin.append, args := #[s, x], argTypes := #[t, t] })
 (vs vx v' : Value) (hs : a.eval s = vs) (hx : a.eval x = vx) (hrun : (Builtin.append_ #[t, t] o.type #[vs, vx]).run P w = .ok v' w')
 (hK : K (a.put o.dst v') w') : if Region.wanted o (yielded ops a.tmps) = true then Oper.wp P o a w K Q else E := by
 have hw : Region.wanted o (yielded ops a.tmps) = true := by simp [Region.wanted, hg]
 rw [if_pos hw]
 unfold Oper.wp
 simp [execOp, hop, resolve, invoke, builtin, hs, hx, hrun, Result.andThen]
 exact hK
end
section
variable {ops : Array Oper} {o : Oper} {a : Act} {w : World} {K : Act → World → Prop} {Q : Exit → Act → World → Prop} {E : Prop}
/-- append whose source lies in cells, onto a row in new memory. -/
theorem step_append_row (base : Nat) (e : TypeId) (i : TypeInfo) (z : Value) (size bytes : Nat) (hi : Tryz.prog.info? e = some i) (hz : i.zero = some z) (hsz : i.size = size) (hby : i.bytes = bytes) (hzs : z.cells.size = size) (h0 : 0 < size) (h24 : bytes ≤ 24)
 (hg : o.guard = none) (s x : Operand) (t : TypeId) (hop : o.op = Op.call { callee := Callee.builtin Builtin.append, args := #[s, x], argTypes := #[t, t] }) (ht : Tryz.prog.underlying t = some (.slice e))
 (vs : Value) (hs : a.eval s = vs) (n : Nat) (xs : List Value) (hown : w.ownsRow base e size vs n xs)
 (ad : Option Addr) (m c : Nat) (hx : a.eval x = .slice ad m c) (news : List Value) (hl : news.length = m * size)
 (hnews : (∃ p, ad = some p ∧ ∀ j u, news[j]? = some u → w.cell? (p.add j) = some u) ∨ (ad = none ∧ c = 0 ∧ m = 0)) (h1 : ∀ u ∈ news, u.oneCell' = true) (hlen : n + m ≤ 1000000) (hbase : base ≤ w.heap.size)
 (hK : ∀ v' w', w'.ownsRow base e size v' (n + m) (xs ++ news) → w.grownBy w' vs.ownBlock → K (a.put o.dst v') w') :
 if Region.wanted o (yielded ops a.tmps) = true then Oper.wp Tryz.prog o a w K Q else E := by
 rcases hnews with ⟨p, rfl, hc⟩ | ⟨rfl, rfl, rfl⟩
 · obtain ⟨v', w', hr, h2, h3, _, _⟩ := run_append_own_at (P := Tryz.prog) w base t o.type e i z size bytes ht hi hz hsz hby hzs h0 vs n xs hown p m c news hl hc h1 (by simp only [maxLen]; omega) (Nat.le_trans (Nat.mul_le_mul hlen h24) (by decide)) hbase
   exact step_append_run hg s x t hop _ _ _ hs hx hr (hK _ _ h2 h3)
 · have hn : news = [] := List.length_eq_zero_iff.1 (by rw [hl]; simp)
   subst hn
   exact step_append_run hg s x t hop _ _ _ hs hx (run_append_owned_none (P := Tryz.prog) w base t o.type e i size ht hi vs n xs hown) (hK _ _ (by rw [List.append_nil]; exact hown) ⟨rfl, rfl, rfl, Nat.le_refl _, fun _ _ _ => rfl⟩)
end
theorem lit0 {W : World} {base k : Nat} (e : TypeId) (hk : k = W.heap.size) (hb : base ≤ W.heap.size) : (W.alloc (.cells #[] e)).ownsRow base e 1 (.slice (some ⟨k, 0, none⟩) 0 0) 0 [] := by
 subst hk; exact World.ownsRow_lit (base := base) (e := e) (size := 1) W #[] 0 hb (by simp [maxLen]) rfl
theorem bel_a1 {w : World} {o : Obj} : Below w.heap.size w (w.alloc o).drew := below_drewN ((Below.refl w.heap.size w).alloc (Nat.le_refl _) o) 1
theorem bel_a2 {w : World} {o o' : Obj} : Below w.heap.size w ((w.alloc o).alloc o').drew := below_drewN (((Below.refl w.heap.size w).alloc (Nat.le_refl _) o).alloc (by simp) o') 1
theorem cell_alloc1 {w : World} {p : Addr} {v : Value} {o : Obj} (h : w.cell? p = some v) : (w.alloc o).cell? p = some v := by
 rw [((Below.refl w.heap.size w).alloc (Nat.le_refl _) o).cell (block_lt_of_cell h)]; exact h
/-- The source of an append: the values lie below block B, or there are none. -/
structure NewsAt (w : World) (B : Nat) (ad : Option Addr) (m c : Nat) (news : List Value) : Prop where
 src : (∃ p, ad = some p ∧ p.block < B ∧ ∀ (j : Nat) (u : Value), news[j]? = some u → w.cell? (p.add j) = some u) ∨ (ad = none ∧ c = 0 ∧ m = 0)
theorem NewsAt.out {w : World} {B : Nat} {ad : Option Addr} {m c : Nat} {news : List Value} (h : NewsAt w B ad m c news) : (∃ p, ad = some p ∧ ∀ (j : Nat) (u : Value), news[j]? = some u → w.cell? (p.add j) = some u) ∨ (ad = none ∧ c = 0 ∧ m = 0) := by
 rcases h.src with ⟨p, h1, _, h3⟩ | h
 · exact Or.inl ⟨p, h1, h3⟩
 · exact Or.inr h
theorem NewsAt.below {w w' : World} {B : Nat} {ad : Option Addr} {m c : Nat} {news : List Value} (h : NewsAt w B ad m c news) (hb : Below B w w') : NewsAt w' B ad m c news := by
 rcases h.src with ⟨p, h1, h2, h3⟩ | h
 · exact ⟨Or.inl ⟨p, h1, h2, fun j u hj => (hb.cell (p := p.add j) (by rw [block_of_add]; exact h2)).trans (h3 j u hj)⟩⟩
 · exact ⟨Or.inr h⟩
theorem NewsAt.mono {w : World} {B B' : Nat} {ad : Option Addr} {m c : Nat} {news : List Value} (h : NewsAt w B ad m c news) (hB : B ≤ B') : NewsAt w B' ad m c news := by
 rcases h.src with ⟨p, h1, h2, h3⟩ | h
 · exact ⟨Or.inl ⟨p, h1, by omega, h3⟩⟩
 · exact ⟨Or.inr h⟩
theorem newsAt_of_row {w : World} {base : Nat} {e : TypeId} {v : Value} {l : List By} (h : w.ownsRow base e 1 v l.length (l.map sv)) : ∃ ad c, v = .slice ad l.length c ∧ NewsAt w w.heap.size ad l.length c (l.map sv) ∧ Strs w w.heap.size ad l := by
 rcases h.2 with ⟨rfl, hn⟩ | ⟨g, cap, cur, rfl, hbase, hblk, q1, q2, q3, q4⟩
 · have : l = [] := List.length_eq_zero_iff.1 hn
   subst this; exact ⟨none, 0, rfl, ⟨Or.inr ⟨rfl, rfl, rfl⟩⟩, strs_nil _ _ _⟩
 · have q5 : cur.toList.take l.length = l.map sv := by rw [← q4, Nat.mul_one]
   refine ⟨_, cap, rfl, ⟨Or.inl ⟨_, rfl, lt_of_block hblk, fun j u hj => ?_⟩⟩, ⟨fun _ => ⟨g, 0, rfl, lt_of_block hblk, fun i hi => ?_⟩⟩⟩
   · refine news_at hblk j u ?_
     rw [← q5, List.getElem?_take] at hj
     split at hj
     · exact hj
     · simp at hj
   · rw [Nat.zero_add, cell_of_row w g i cur e (0, 0) hblk]
     have hi2 : (l.map sv)[i]? = some (.string ⟨l[i].toArray⟩) := by simp [hi, sv]
     rw [← q5, List.getElem?_take, if_pos hi] at hi2
     simpa using hi2
theorem one_sv (l : List By) : ∀ u ∈ l.map sv, u.oneCell' = true := by
 intro u hu; obtain ⟨z, _, rfl⟩ := List.mem_map.1 hu; rfl
end
section
open Go.RowKit Go.Sort
/-- Writes as cells. -/
def wrC (x : Nat × By) : List Value := [.int .i64 x.1, sv x.2]
def flatW : List (Nat × By) → List Value
 | [] => []
 | x :: l => wrC x ++ flatW l
theorem flatW_append (a b : List (Nat × By)) : flatW (a ++ b) = flatW a ++ flatW b := by
 induction a with
 | nil => rfl
 | cons x a ih => show wrC x ++ flatW (a ++ b) = wrC x ++ flatW a ++ flatW b; rw [ih, List.append_assoc]
/-- The writes from a number on. -/
def wr1 : Nat → List By → List (Nat × By)
 | _, [] => []
 | i, d :: l => (i, d) :: wr1 (i + 1) l
theorem wr1_length : ∀ (l : List By) (i : Nat), (wr1 i l).length = l.length
 | [], _ => rfl
 | _ :: l, i => by simp [wr1, wr1_length l]
theorem wr1_append : ∀ (l : List By) (i : Nat) (d : By), wr1 i (l ++ [d]) = wr1 i l ++ [(i + l.length, d)]
 | [], _, _ => rfl
 | x :: l, i, d => by simp [wr1, wr1_append l (i + 1) d]; omega
theorem wr1_take (l : List By) (i j : Nat) (h : j < l.length) : wr1 i (l.take (j + 1)) = wr1 i (l.take j) ++ [(i + j, l[j])] := by
 rw [take_snoc' l j h, wr1_append, List.length_take, Nat.min_eq_left (by omega)]
def headB (n k s : Nat) : By := pad (num n ++ num k ++ num s)
/-- All writes of a data set. -/
def writesOf (n k : Nat) (S : By) : List (Nat × By) := (0, headB n k S.length) :: wr1 1 (secA S.length S)
theorem infoW : (Tryz.prog.info? 225).map (fun i => (i.zero, i.size, i.bytes)) = some (some (.agg #[.int .i64 0, .string ByteArray.empty]), 2, 24) := by kernel_rfl
theorem Only.cell {S : List Nat} {w w' : World} (h : Only S w w') {p : Addr} (hp : p.block < w.heap.size) (hn : p.block ∉ S) : w'.cell? p = w.cell? p := World.cell?_of_block (w := w) (h.block p.block hp hn)
/-- Texts in a row, from a block on. -/
structure StrsIn (w : World) (lo : Nat) (a : Option Addr) (l : List By) : Prop where
 cells : l ≠ [] → ∃ b, a = some ⟨b, 0, none⟩ ∧ lo ≤ b ∧ b < w.heap.size ∧ ∀ i (h : i < l.length), w.cell? ⟨b, i, none⟩ = some (.string ⟨l[i].toArray⟩)
theorem strsIn_of_row {w : World} {base : Nat} {e : TypeId} {v : Value} {l : List By} (h : w.ownsRow base e 1 v l.length (l.map sv)) : ∃ a cap, v = .slice a l.length cap ∧ StrsIn w base a l := by
 rcases h.2 with ⟨rfl, hn⟩ | ⟨g, cap, cur, rfl, hbase, hblk, q1, q2, q3, q4⟩
 · have : l = [] := List.length_eq_zero_iff.1 hn
   subst this; exact ⟨none, 0, rfl, ⟨fun h => absurd rfl h⟩⟩
 · refine ⟨_, cap, rfl, ⟨fun _ => ⟨g, rfl, hbase, lt_of_block hblk, fun i hi => ?_⟩⟩⟩
   rw [cell_of_row w g i cur e (0, 0) hblk]
   have hi2 : (l.map sv)[i]? = some (.string ⟨l[i].toArray⟩) := by simp [hi, sv]
   rw [← q4, Nat.mul_one, List.getElem?_take, if_pos hi] at hi2
   simpa using hi2
/-- A row of writes behind the world of w6, begun in block g. -/
structure BdSt (w6 : World) (g base : Nat) (W : World) (ws : List (Nat × By)) (v : Value) : Prop where
 only : Only [g] w6 W
 own : W.ownsRow base 225 2 v ws.length (flatW ws)
 blk : ∀ k, v.ownBlock = some k → k = g ∨ w6.heap.size ≤ k
theorem BdSt.text {w6 W : World} {g base : Nat} {ws : List (Nat × By)} {v : Value} (h : BdSt w6 g base W ws v) {lo : Nat} {a : Option Addr} {l : List By} (hs : StrsIn w6 lo a l) (hg : g < lo) {i : Nat} (hi : i < l.length) :
 ∃ b, a = some ⟨b, 0, none⟩ ∧ b < W.heap.size ∧ W.cell? ⟨b, i, none⟩ = some (.string ⟨l[i].toArray⟩) := by
 obtain ⟨b, h1, h2, h3, h4⟩ := hs.cells (fun e => by rw [e] at hi; simp at hi)
 exact ⟨b, h1, Nat.lt_of_lt_of_le h3 h.only.size, (h.only.cell (p := ⟨b, i, none⟩) h3 (by simp; omega)).trans (h4 i hi)⟩
theorem BdSt.step {w6 W W' W2 : World} {g base : Nat} {ws : List (Nat × By)} {v v' : Value} (h : BdSt w6 g base W ws v) (hW : Only [g] w6 W') (x : Nat × By) (hn : W'.heap.size = W.heap.size + 1)
 (ho : W2.ownsRow base 225 2 v' (ws.length + 1) (flatW ws ++ wrC x)) (hg : W'.grownBy W2 v.ownBlock) (hb : v'.ownBlock = v.ownBlock ∨ v'.ownBlock = some W'.heap.size) : BdSt w6 g base W2 (ws ++ [x]) v' :=
 ⟨hW.grown hg (fun k hk => by rcases h.blk k hk with h | h; exact Or.inl (by simp [h]); exact Or.inr h),
  by rw [List.length_append, flatW_append]; exact ho,
  fun k hk => by
   rcases hb with hb | hb
   · exact h.blk k (hb ▸ hk)
   · rw [hb] at hk; have := Option.some.inj hk; have := hW.size; exact Or.inr (by omega)⟩
/-- What Build and Format give. -/
structure WPost (w : World) (ws : List (Nat × By)) (k : Int) (e : Ending) (w' : World) : Prop where
 out : ∃ v, e = .returned (.tuple #[v, .int .i64 k]) ∧ w'.ownsRow w.heap.size 225 2 v ws.length (flatW ws)
 bel : Below w.heap.size w w'
theorem WPost.none {w w' : World} (k : Int) (h : Below w.heap.size w w') : WPost w [] k (.returned (.tuple #[.slice none 0 0, .int .i64 k])) w' :=
 ⟨⟨_, rfl, own_nil _ _ _ _⟩, h⟩
end
end Go.Proofs.YtcefkngblddpoaaGreatDoor

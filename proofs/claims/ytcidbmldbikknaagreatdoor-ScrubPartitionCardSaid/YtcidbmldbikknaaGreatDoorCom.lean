/-
  Worlds, rows and texts (out of the texts of chapter 13). No condition.
-/
import Derived.Test.YtcidbmldbikknaaGreatDoorProg
import Derived.WalkKit
import Derived.WalkSpells
import Derived.WalkLawsBesides
import Derived.Lib.Hide
import Derived.Lib.QuietBelow
import Derived.Deep.QuietTactic
import Derived.BigQuiet
import Derived.RegionTactic
import Derived.ChangeAlike
import Derived.OneCell
import Derived.Lib.ConvBytes
import Derived.Laws.BytesArg
import Derived.IntWalk
import Derived.Laws.MakeOwn
import Derived.Laws.OwnMore
import Derived.Deep.RegionWith
import Derived.Deep.RegionHeld3
import Derived.Deep.AppendLies
import Derived.Deep.Draws
import Derived.Maps.AppendAt
import Derived.OwnWalk
import Derived.Laws.ResultCell
import Derived.Deep.RegionLaw
import Derived.Deep.DeepCutAuto
import Derived.Laws.AppendOwnNone
import Derived.Great.BuildSlice
import Derived.Laws.Rows
import Derived.StillTailTactics
import Derived.Deep.MidRow
namespace Go.Proofs.YtcidbmldbikknaaGreatDoor
section
open Go.RowKit Go.Sort
theorem ret_int {k : IntKind} {a b : Int} (h : a = b) : Ending.returned (.int k a) = .returned (.int k b) := by rw [h]
theorem ret_str {a b : ByteArray} (h : a = b) : Ending.returned (.string a) = .returned (.string b) := by rw [h]
theorem ret_bool {a b : Bool} (h : a = b) : Ending.returned (.bool a) = .returned (.bool b) := by rw [h]
/-- A callee's contract, met behind others: what was there when the caller began has not turned. -/
theorem via {P : Program} {f : FuncId} {args : Array Value} {w W : World} {v : Value} (h : Calls P f args w fun e w' => e = .returned v ∧ Below w.heap.size w w') (hb : Below W.heap.size W w) :
    Calls P f args w fun e w' => e = .returned v ∧ Below W.heap.size W w' := h.mono fun _ _ ⟨he, hb'⟩ => ⟨he, hb.trans (hb'.mono hb.size)⟩
theorem below_drewN {n : Nat} {a w : World} (h : Below n a w) (k : Nat) : Below n a (w.drewN k) := ⟨h.os, h.tape, h.output, h.size, h.block⟩
theorem below_setRow {n : Nat} {a w : World} (h : Below n a w) {g : Nat} (hg : n ≤ g) (cs : Array Value) : Below n a (w.setRow g cs) :=
  h.trans ⟨rfl, rfl, rfl, by simp, fun k hk => setRow_other _ _ _ _ (by omega)⟩
theorem heap_below {n : Nat} {a w : World} (h : Below n a w) {k : Nat} {o : Obj} (hk : k < n) (ho : a.heap[k]? = some o) : w.heap[k]? = some o := (h.block k hk).trans ho
/-- Of the blocks that were there only those in S have turned. -/
structure Only (S : List Nat) (w w' : World) : Prop where
  os : w'.os = w.os
  tape : w'.tape = w.tape
  output : w'.output = w.output
  size : w.heap.size ≤ w'.heap.size
  block : ∀ k, k < w.heap.size → k ∉ S → w'.heap[k]? = w.heap[k]?
theorem Only.refl (S : List Nat) (w : World) : Only S w w := ⟨rfl, rfl, rfl, Nat.le_refl _, fun _ _ _ => rfl⟩
theorem Only.trans {S : List Nat} {a b c : World} (h : Only S a b) (k : Only S b c) : Only S a c :=
  ⟨k.os.trans h.os, k.tape.trans h.tape, k.output.trans h.output, Nat.le_trans h.size k.size, fun i hi hn => (k.block i (Nat.lt_of_lt_of_le hi h.size) hn).trans (h.block i hi hn)⟩
theorem Only.mono {S T : List Nat} {w w' : World} (h : Only S w w') (hs : ∀ k, k ∈ S → k < w.heap.size → k ∈ T) : Only T w w' :=
  ⟨h.os, h.tape, h.output, h.size, fun k hk hn => h.block k hk fun hm => hn (hs k hm hk)⟩
/-- Behind a step that may have turned blocks which the caller has laid itself. -/
theorem Only.then {S T : List Nat} {a b c : World} (h : Only S a b) (k : Only T b c) (hT : ∀ i, i ∈ T → i ∈ S ∨ a.heap.size ≤ i) : Only S a c :=
  ⟨k.os.trans h.os, k.tape.trans h.tape, k.output.trans h.output, Nat.le_trans h.size k.size, fun i hi hn =>
    (k.block i (Nat.lt_of_lt_of_le hi h.size) (fun hm => (hT i hm).elim hn (fun h1 => by omega))).trans (h.block i hi hn)⟩
theorem Only.of_below {S : List Nat} {w w' : World} (h : Below w.heap.size w w') : Only S w w' := ⟨h.os, h.tape, h.output, h.size, fun k hk _ => h.block k hk⟩
theorem Only.below {S : List Nat} {w w' : World} {B : Nat} (h : Only S w w') (hB : B ≤ w.heap.size) (hs : ∀ k, k ∈ S → B ≤ k) : Below B w w' :=
  ⟨h.os, h.tape, h.output, h.size, fun k hk => h.block k (by omega) fun hm => by have := hs k hm; omega⟩
theorem Only.to_below {w w' : World} (h : Only [] w w') : Below w.heap.size w w' := h.below (Nat.le_refl _) (fun _ hk => by simp at hk)
theorem Only.step_below {S : List Nat} {a b c : World} (h : Only S a b) (k : Below b.heap.size b c) : Only S a c := h.trans (Only.of_below k)
theorem Only.drew {S : List Nat} {a w : World} (h : Only S a w) : Only S a w.drew := ⟨h.os, h.tape, h.output, h.size, h.block⟩
theorem Only.drewN {S : List Nat} {a w : World} (h : Only S a w) (n : Nat) : Only S a (w.drewN n) := ⟨h.os, h.tape, h.output, h.size, h.block⟩
theorem Only.alloc {S : List Nat} {a w : World} (h : Only S a w) (o : Obj) : Only S a (w.alloc o) :=
  h.trans (Only.of_below ((Below.refl _ _).alloc (Nat.le_refl _) o))
theorem Only.setCell {S : List Nat} {a w : World} (h : Only S a w) {p : Addr} (hp : p.block ∈ S ∨ a.heap.size ≤ p.block) (v : Value) : Only S a (w.setCell p v) :=
  h.then (T := [p.block]) ⟨rfl, rfl, rfl, by simp [World.setCell], fun k _ hn => Below.heap_setCell _ _ _ _ (by simpa using hn)⟩ (fun i hi => by simp at hi; subst hi; exact hp)
theorem Only.setRow {S : List Nat} {a w : World} (h : Only S a w) {g : Nat} (hp : g ∈ S ∨ a.heap.size ≤ g) (cs : Array Value) : Only S a (w.setRow g cs) :=
  h.then (T := [g]) ⟨rfl, rfl, rfl, by simp, fun k _ hn => setRow_other _ _ _ _ (by simpa using hn)⟩ (fun i hi => by simp at hi; subst hi; exact hp)
theorem Only.grown {S : List Nat} {a w w' : World} (h : Only S a w) {row : Option Nat} (hg : w.grownBy w' row) (hr : ∀ k, row = some k → k ∈ S ∨ a.heap.size ≤ k) : Only S a w' :=
  h.then (T := row.toList) ⟨hg.os, hg.tape, hg.output, hg.size, fun k hk hn => hg.block k hk (fun e => hn (by rw [← e]; simp))⟩ (fun i hi => hr i (by simpa using hi))
theorem Only.heap {S : List Nat} {w w' : World} (h : Only S w w') {k : Nat} {o : Obj} (ho : w.heap[k]? = some o) (hk : k ∉ S) : w'.heap[k]? = some o :=
  (h.block k (lt_of_block ho) hk).trans ho
/-- Two blocks that hold different things are two. -/
theorem ne_block {w : World} {a b : Nat} {o p : Obj} (ha : w.heap[a]? = some o) (hb : w.heap[b]? = some p) (h : o ≠ p) : a ≠ b := by
  intro e; subst e; rw [ha] at hb; exact h (Option.some.inj hb)
theorem halloc (w : World) (o : Obj) {i : Nat} (h : i < w.heap.size) : (w.alloc o).heap[i]? = w.heap[i]? := by
  show (w.heap.push o)[i]? = w.heap[i]?
  rw [Array.getElem?_push, if_neg (Nat.ne_of_lt h)]
theorem cell_row_any (w : World) (g i : Nat) (cs : Array Value) (t : TypeId) (fr : Nat × Nat) (v : Value) (hg : w.heap[g]? = some (.cells cs t fr)) :
    (w.setCell ⟨g, i, none⟩ v).heap[g]? = some (.cells (cs.setIfInBounds i v) t fr) := by
  rw [setCell_eq_setRow w g i cs t fr v hg]
  exact setRow_heap w g cs _ t fr hg
theorem cell_at {w : World} {g i : Nat} {cs : Array Value} {t : TypeId} {fr : Nat × Nat} {v : Value} (hg : w.heap[g]? = some (.cells cs t fr)) (h : cs[i]? = some v) : w.cell? ⟨g, i, none⟩ = some v := by
  rw [cell_of_row w g i cs t fr hg]; exact h
theorem free_at {w : World} {g : Nat} {cs : Array Value} {t : TypeId} (hg : w.heap[g]? = some (.cells cs t (0, 0))) (i : Nat) : w.frozen? ⟨g, i, none⟩ = false := frozen_of_row w g i cs t hg
end
section
abbrev By := List UInt8
def b8 (n : Nat) : UInt8 := UInt8.ofNat n
end
section
open Go.RowKit
attribute [local go_sem] ByteArray.mk_append_mk
/-- A text. -/
abbrev bs (l : By) : ByteArray := ⟨l.toArray⟩
def sv (l : By) : Value := .string ⟨l.toArray⟩
theorem ext_drop (l : By) (k : Nat) : (ByteArray.mk l.toArray).extract k l.length = ⟨(l.drop k).toArray⟩ := by
  apply ByteArray.ext
  rw [ByteArray.data_extract]
  apply Array.ext'
  simp
  exact List.take_of_length_le (by rw [List.length_drop]; omega)
theorem ext_take (l : By) (k : Nat) : (ByteArray.mk l.toArray).extract 0 k = ⟨(l.take k).toArray⟩ := by
  apply ByteArray.ext
  rw [ByteArray.data_extract]
  apply Array.ext'
  simp
theorem ofN (n : Nat) : UInt8.ofNat ((n : Int)).toNat = b8 n := rfl
end
section
open Go.RowKit
attribute [local go_sem] ByteArray.mk_append_mk
theorem conv_at (w : World) (g n : Nat) (l : List Int) (t : TypeId) (fr : Nat × Nat) (hg : w.heap[g]? = some (.cells (l.map (Value.int .u8)).toArray t fr)) (hn : l.length = n) :
    (convert 144 9 (.slice (some ⟨g, 0, none⟩) n n)).run Tryz.prog w = .ok (.string (strOfNums l)) w := by
  refine run_convert_bytes_arg (P := Tryz.prog) _ 144 5 Tryz.underlying144 Tryz.underlying5 g 0 n n l hn ?_ 9 Tryz.underlying9
  intro i hi
  rw [Nat.zero_add, cell_of_row _ _ _ _ _ _ hg]
  have hl : i < l.length := by omega
  simp [List.getD, hl]
theorem below_drew1 {w : World} : Below w.heap.size w w.drew := below_drewN (Below.refl _ _) 1
theorem str_n (n : Nat) : strOfNums [(n : Int)] = bs [b8 n] := by
  unfold strOfNums; simp only [List.map_cons, List.map_nil, ofN]
theorem alloc_drew {w : World} {o : Obj} : ((w.alloc o).drew).heap[w.heap.size]? = some o := heap_alloc_new w o
end
section
open Go.RowKit
attribute [local go_sem] ByteArray.mk_append_mk
theorem block_of_add (a : Addr) (n : Nat) : (a.add n).block = a.block := by unfold Addr.add; split <;> rfl
/-- A slice of texts that lies below block B. -/
structure Strs (w : World) (B : Nat) (a : Option Addr) (l : List By) : Prop where
  cells : l ≠ [] → ∃ b off, a = some ⟨b, off, none⟩ ∧ b < B ∧ ∀ i (h : i < l.length), w.cell? ⟨b, off + i, none⟩ = some (.string ⟨l[i].toArray⟩)
theorem Strs.below {w w' : World} {B a l} (h : Strs w B a l) (hb : Below B w w') : Strs w' B a l :=
  ⟨fun hl => by obtain ⟨b, off, h1, h2, h3⟩ := h.cells hl; exact ⟨b, off, h1, h2, fun i hi => (hb.cell (p := ⟨b, off + i, none⟩) h2).trans (h3 i hi)⟩⟩
theorem Strs.mono {w : World} {B B' a l} (h : Strs w B a l) (hB : B ≤ B') : Strs w B' a l :=
  ⟨fun hl => by obtain ⟨b, off, h1, h2, h3⟩ := h.cells hl; exact ⟨b, off, h1, by omega, h3⟩⟩
theorem Strs.get {w : World} {B a l} (h : Strs w B a l) {i : Nat} (hi : i < l.length) : ∃ b off, a = some ⟨b, off, none⟩ ∧ b < B ∧ w.cell? ⟨b, off + i, none⟩ = some (.string ⟨l[i].toArray⟩) := by
  obtain ⟨b, off, h1, h2, h3⟩ := h.cells (fun e => by rw [e] at hi; simp at hi)
  exact ⟨b, off, h1, h2, h3 i hi⟩
theorem strs_nil (w : World) (B : Nat) (a : Option Addr) : Strs w B a [] := ⟨fun h => absurd rfl h⟩
theorem Strs.take {w : World} {B a l} (h : Strs w B a l) (k : Nat) : Strs w B a (l.take k) :=
  ⟨fun hl => by
    obtain ⟨b, off, h1, h2, h3⟩ := h.cells (fun e => by subst e; simp at hl)
    exact ⟨b, off, h1, h2, fun i hi => by rw [List.length_take] at hi; rw [h3 i (by omega), List.getElem_take]⟩⟩
theorem strs_of_row {w : World} {base : Nat} {e : TypeId} {v : Value} {l : List By} (h : w.ownsRow base e 1 v l.length (l.map sv)) : ∃ a cap, v = .slice a l.length cap ∧ Strs w w.heap.size a l ∧ l.length ≤ cap := by
  rcases h.2 with ⟨rfl, hn⟩ | ⟨g, cap, cur, rfl, hbase, hblk, q1, q2, q3, q4⟩
  · have : l = [] := List.length_eq_zero_iff.1 hn
    subst this; exact ⟨none, 0, rfl, strs_nil _ _ _, Nat.le_refl _⟩
  · refine ⟨_, cap, rfl, ⟨fun _ => ⟨g, 0, rfl, lt_of_block hblk, fun i hi => ?_⟩⟩, q1⟩
    rw [Nat.zero_add, cell_of_row w g i cur e (0, 0) hblk]
    have hi2 : (l.map sv)[i]? = some (.string ⟨l[i].toArray⟩) := by simp [hi, sv]
    rw [← q4, List.getElem?_take] at hi2
    split at hi2
    · simpa using hi2
    · simp at hi2
end
section
open Go.RowKit Go.Sort
attribute [local go_sem] ByteArray.mk_append_mk strOfNums_size ext_drop ext_take
theorem info9 : (Tryz.prog.info? 9).map (fun i => (i.zero, i.size, i.bytes)) = some (some (.string ByteArray.empty), 1, 16) := by kernel_rfl
end
section
open Go.RowKit Go.Sort
attribute [local go_sem] ByteArray.mk_append_mk strOfNums_size ext_drop ext_take
theorem row_own {w : World} {base : Nat} {e : TypeId} {size : Nat} {v : Value} {n : Nat} {xs : List Value} (h : w.ownsRow base e size v n xs) {k : Nat} (hk : v.ownBlock = some k) : base ≤ k := by
  rcases h.2 with ⟨rfl, _⟩ | ⟨g, cap, cur, rfl, hg, _⟩
  · simp [Value.ownBlock] at hk
  · have : g = k := Option.some.inj hk
    omega
theorem own_below {w w' : World} {base : Nat} {e : TypeId} {size : Nat} {v : Value} {n : Nat} {xs : List Value} (h : w.ownsRow base e size v n xs) (hb : Below w.heap.size w w') : w'.ownsRow base e size v n xs := by
  obtain ⟨h1, h2⟩ := h
  refine ⟨h1, ?_⟩
  rcases h2 with h2 | ⟨g, cap, cur, hv, hg, hh, r⟩
  · exact Or.inl h2
  · exact Or.inr ⟨g, cap, cur, hv, hg, heap_below hb (lt_of_block hh) hh, r⟩
theorem own_only {w w' : World} {base : Nat} {e : TypeId} {size : Nat} {v : Value} {n : Nat} {xs : List Value} {S : List Nat} (h : w.ownsRow base e size v n xs) (ho : Only S w w') (hs : ∀ k, v.ownBlock = some k → k ∉ S) : w'.ownsRow base e size v n xs := by
  obtain ⟨h1, h2⟩ := h
  refine ⟨h1, ?_⟩
  rcases h2 with h2 | ⟨g, cap, cur, hv, hg, hh, r⟩
  · exact Or.inl h2
  · exact Or.inr ⟨g, cap, cur, hv, hg, (ho.block g (lt_of_block hh) (hs g (by subst hv; rfl))).trans hh, r⟩
theorem own_nil (w : World) (base : Nat) (e : TypeId) (size : Nat) : w.ownsRow base e size (.slice none 0 0) 0 [] := ⟨by simp, Or.inl ⟨rfl, rfl⟩⟩
theorem own_mono {w : World} {base base' : Nat} {e : TypeId} {size : Nat} {v : Value} {n : Nat} {xs : List Value} (h : w.ownsRow base e size v n xs) (hb : base' ≤ base) : w.ownsRow base' e size v n xs := by
  obtain ⟨h1, h2⟩ := h
  refine ⟨h1, ?_⟩
  rcases h2 with h2 | ⟨g, cap, cur, hv, hg, r⟩
  · exact Or.inl h2
  · exact Or.inr ⟨g, cap, cur, hv, Nat.le_trans hb hg, r⟩
theorem add_plain (b off j : Nat) : (⟨b, off, none⟩ : Addr).add j = ⟨b, off + j, none⟩ := by
  unfold Addr.add; split
  · rename_i h; subst h; rfl
  · rfl
theorem news_at {w : World} {g : Nat} {cs : Array Value} {t : TypeId} {fr : Nat × Nat} (hg : w.heap[g]? = some (.cells cs t fr)) : ∀ (j : Nat) (u : Value), cs.toList[j]? = some u → w.cell? ((⟨g, 0, none⟩ : Addr).add j) = some u := by
  intro j u hj
  rw [add_plain, Nat.zero_add, cell_of_row w g j cs t fr hg]
  simpa using hj
end
section
open Go.RowKit Go.Sort
attribute [local go_sem] ByteArray.mk_append_mk strOfNums_size ext_drop ext_take
theorem row_set {w : World} {base : Nat} {e : TypeId} {v : Value} {l : List By} (h : w.ownsRow base e 1 v l.length (l.map sv)) (i : Nat) (hi : i < l.length) :
    ∃ g cap, v = .slice (some ⟨g, 0, none⟩) l.length cap ∧ base ≤ g ∧ g < w.heap.size ∧ w.cell? ⟨g, i, none⟩ = some (.string ⟨l[i].toArray⟩) ∧ w.frozen? ⟨g, i, none⟩ = false ∧
      ∀ (W : World) (b : By), W.heap[g]? = w.heap[g]? → (W.setCell ⟨g, i, none⟩ (.string ⟨b.toArray⟩)).ownsRow base e 1 v (l.set i b).length ((l.set i b).map sv) := by
  rcases h.2 with ⟨rfl, hn⟩ | ⟨g, cap, cur, rfl, hbase, hblk, q1, q2, q3, q4⟩
  · omega
  · have q4' : cur.toList.take l.length = l.map sv := by rw [← q4, Nat.mul_one]
    refine ⟨g, cap, rfl, hbase, lt_of_block hblk, ?_, free_at hblk i, fun W b hW => ?_⟩
    · rw [cell_of_row w g i cur e (0, 0) hblk]
      have hi2 : (l.map sv)[i]? = some (.string ⟨l[i].toArray⟩) := by simp [hi, sv]
      rw [← q4', List.getElem?_take, if_pos hi] at hi2
      simpa using hi2
    · refine ⟨by simp, Or.inr ⟨g, cap, cur.setIfInBounds i (.string ⟨b.toArray⟩), by simp, hbase, cell_row_any _ _ _ _ _ _ _ (hW.trans hblk), by simpa using q1, q2, by simpa using q3, ?_⟩⟩
      rw [Nat.mul_one, List.length_set, Array.toList_setIfInBounds, List.take_set, q4', List.map_set]; rfl
end
section
open Go.RowKit Go.Sort
section
variable {P : Program} {ops : Array Oper} {o : Oper} {a : Act} {w w' : World} {K : Act → World → Prop} {Q : Exit → Act → World → Prop} {E : Prop}
/-- append, whose run is known, as one step of a region that draws. -/
theorem step_append_run (hg : o.guard = none) (s x : Operand) (t : TypeId) (hop : o.op = Op.call { callee := Callee.builtin Builtin.append, args := #[s, x], argTypes := #[t, t] })
    (vs vx v' : Value) (hs : a.eval s = vs) (hx : a.eval x = vx) (hrun : (Builtin.append_ #[t, t] o.type #[vs, vx]).run P w = .ok v' w')
    (hK : K (a.put o.dst v') w') : if Region.wanted o (yielded ops a.tmps) = true then Oper.wp P o a w K Q else E := by
  have hw : Region.wanted o (yielded ops a.tmps) = true := by simp [Region.wanted, hg]
  rw [if_pos hw]
  unfold Oper.wp
  simp [execOp, hop, resolve, invoke, builtin, hs, hx, hrun, Result.andThen]
  exact hK
end
section
variable {ops : Array Oper} {o : Oper} {a : Act} {w : World} {K : Act → World → Prop} {Q : Exit → Act → World → Prop} {E : Prop}
/-- append whose source lies in cells, onto a row in new memory. -/
theorem step_append_row (base : Nat) (e : TypeId) (i : TypeInfo) (z : Value) (size bytes : Nat) (hi : Tryz.prog.info? e = some i) (hz : i.zero = some z) (hsz : i.size = size) (hby : i.bytes = bytes) (hzs : z.cells.size = size) (h0 : 0 < size) (h24 : bytes ≤ 24)
    (hg : o.guard = none) (s x : Operand) (t : TypeId) (hop : o.op = Op.call { callee := Callee.builtin Builtin.append, args := #[s, x], argTypes := #[t, t] }) (ht : Tryz.prog.underlying t = some (.slice e))
    (vs : Value) (hs : a.eval s = vs) (n : Nat) (xs : List Value) (hown : w.ownsRow base e size vs n xs)
    (ad : Option Addr) (m c : Nat) (hx : a.eval x = .slice ad m c) (news : List Value) (hl : news.length = m * size)
    (hnews : (∃ p, ad = some p ∧ ∀ j u, news[j]? = some u → w.cell? (p.add j) = some u) ∨ (ad = none ∧ c = 0 ∧ m = 0)) (h1 : ∀ u ∈ news, u.oneCell' = true) (hlen : n + m ≤ 1000000) (hbase : base ≤ w.heap.size)
    (hK : ∀ v' w', w'.ownsRow base e size v' (n + m) (xs ++ news) → w.grownBy w' vs.ownBlock → K (a.put o.dst v') w') :
    if Region.wanted o (yielded ops a.tmps) = true then Oper.wp Tryz.prog o a w K Q else E := by
  rcases hnews with ⟨p, rfl, hc⟩ | ⟨rfl, rfl, rfl⟩
  · obtain ⟨v', w', hr, h2, h3, _, _⟩ := run_append_own_at (P := Tryz.prog) w base t o.type e i z size bytes ht hi hz hsz hby hzs h0 vs n xs hown p m c news hl hc h1 (by simp only [maxLen]; omega) (Nat.le_trans (Nat.mul_le_mul hlen h24) (by decide)) hbase
    exact step_append_run hg s x t hop _ _ _ hs hx hr (hK _ _ h2 h3)
  · have hn : news = [] := List.length_eq_zero_iff.1 (by rw [hl]; simp)
    subst hn
    exact step_append_run hg s x t hop _ _ _ hs hx (run_append_owned_none (P := Tryz.prog) w base t o.type e i size ht hi vs n xs hown) (hK _ _ (by rw [List.append_nil]; exact hown) ⟨rfl, rfl, rfl, Nat.le_refl _, fun _ _ _ => rfl⟩)
end
theorem lit0 {W : World} {base k : Nat} (e : TypeId) (hk : k = W.heap.size) (hb : base ≤ W.heap.size) : (W.alloc (.cells #[] e)).ownsRow base e 1 (.slice (some ⟨k, 0, none⟩) 0 0) 0 [] := by
  subst hk; exact World.ownsRow_lit (base := base) (e := e) (size := 1) W #[] 0 hb (by simp [maxLen]) rfl
theorem bel_a1 {w : World} {o : Obj} : Below w.heap.size w (w.alloc o).drew := below_drewN ((Below.refl w.heap.size w).alloc (Nat.le_refl _) o) 1
theorem bel_a2 {w : World} {o o' : Obj} : Below w.heap.size w ((w.alloc o).alloc o').drew := below_drewN (((Below.refl w.heap.size w).alloc (Nat.le_refl _) o).alloc (by simp) o') 1
/-- The source of an append: the values lie below block B, or there are none. -/
structure NewsAt (w : World) (B : Nat) (ad : Option Addr) (m c : Nat) (news : List Value) : Prop where
  src : (∃ p, ad = some p ∧ p.block < B ∧ ∀ (j : Nat) (u : Value), news[j]? = some u → w.cell? (p.add j) = some u) ∨ (ad = none ∧ c = 0 ∧ m = 0)
theorem NewsAt.below {w w' : World} {B : Nat} {ad : Option Addr} {m c : Nat} {news : List Value} (h : NewsAt w B ad m c news) (hb : Below B w w') : NewsAt w' B ad m c news := by
  rcases h.src with ⟨p, h1, h2, h3⟩ | h
  · exact ⟨Or.inl ⟨p, h1, h2, fun j u hj => (hb.cell (p := p.add j) (by rw [block_of_add]; exact h2)).trans (h3 j u hj)⟩⟩
  · exact ⟨Or.inr h⟩
theorem NewsAt.mono {w : World} {B B' : Nat} {ad : Option Addr} {m c : Nat} {news : List Value} (h : NewsAt w B ad m c news) (hB : B ≤ B') : NewsAt w B' ad m c news := by
  rcases h.src with ⟨p, h1, h2, h3⟩ | h
  · exact ⟨Or.inl ⟨p, h1, by omega, h3⟩⟩
  · exact ⟨Or.inr h⟩
theorem newsAt_of_row {w : World} {base : Nat} {e : TypeId} {v : Value} {l : List By} (h : w.ownsRow base e 1 v l.length (l.map sv)) : ∃ ad c, v = .slice ad l.length c ∧ NewsAt w w.heap.size ad l.length c (l.map sv) ∧ Strs w w.heap.size ad l := by
  rcases h.2 with ⟨rfl, hn⟩ | ⟨g, cap, cur, rfl, hbase, hblk, q1, q2, q3, q4⟩
  · have : l = [] := List.length_eq_zero_iff.1 hn
    subst this; exact ⟨none, 0, rfl, ⟨Or.inr ⟨rfl, rfl, rfl⟩⟩, strs_nil _ _ _⟩
  · have q5 : cur.toList.take l.length = l.map sv := by rw [← q4, Nat.mul_one]
    refine ⟨_, cap, rfl, ⟨Or.inl ⟨_, rfl, lt_of_block hblk, fun j u hj => ?_⟩⟩, ⟨fun _ => ⟨g, 0, rfl, lt_of_block hblk, fun i hi => ?_⟩⟩⟩
    · refine news_at hblk j u ?_
      rw [← q5, List.getElem?_take] at hj
      split at hj
      · exact hj
      · simp at hj
    · rw [Nat.zero_add, cell_of_row w g i cur e (0, 0) hblk]
      have hi2 : (l.map sv)[i]? = some (.string ⟨l[i].toArray⟩) := by simp [hi, sv]
      rw [← q5, List.getElem?_take, if_pos hi] at hi2
      simpa using hi2
theorem one_sv (l : List By) : ∀ u ∈ l.map sv, u.oneCell' = true := by
  intro u hu; obtain ⟨z, _, rfl⟩ := List.mem_map.1 hu; rfl
end
section
open Go.RowKit Go.Sort
attribute [local go_sem] ByteArray.mk_append_mk strOfNums_size ext_drop ext_take
theorem two_new (w : World) (s z : Array Value) (t1 t2 : TypeId) : ((w.alloc (.cells s t1)).alloc (.cells z t2)).heap[w.heap.size + 1]? = some (.cells z t2 (0, 0)) := heap_alloc2_new _ _ _
theorem two_below (w : World) (s z : Array Value) (t1 t2 : TypeId) : Below w.heap.size w ((w.alloc (.cells s t1)).alloc (.cells z t2)) := (((Below.refl _ _).alloc (by simp) _).alloc (by simp) _)
theorem Below.setRow {B g : Nat} {a w : World} (h : Below B a w) (hg : B ≤ g) (cs : Array Value) : Below B a (w.setRow g cs) :=
  h.trans ⟨rfl, rfl, rfl, by simp, fun k hk => setRow_other w g k _ (by omega)⟩
end
section
open Go.RowKit Go.Sort
theorem box_below (w : World) (s : Array Value) (t : TypeId) : Below w.heap.size w (w.alloc (.cells s t)) := (Below.refl _ _).alloc (Nat.le_refl _) _
end
section
open Go.RowKit Go.Sort
attribute [local go_sem] strOfNums_size ext_drop ext_take
theorem own_slice {w : World} {base : Nat} {e : TypeId} {size : Nat} {v : Value} {n : Nat} {xs : List Value} (h : w.ownsRow base e size v n xs) : ∃ a c, v = .slice a n c := by
  rcases h.2 with ⟨rfl, rfl⟩ | ⟨g, cap, cur, rfl, _⟩
  · exact ⟨none, 0, rfl⟩
  · exact ⟨_, cap, rfl⟩
theorem row_cell {w : World} {base : Nat} {e : TypeId} {g n c : Nat} {l : List By} (h : w.ownsRow base e 1 (.slice (some ⟨g, 0, none⟩) n c) l.length (l.map sv)) (i : Nat) (hi : i < l.length) : w.cell? ⟨g, i, none⟩ = some (.string ⟨l[i].toArray⟩) := by
  obtain ⟨g', c', e1, _, _, hc, _⟩ := row_set h i hi
  cases e1
  exact hc
end
section
open Go.RowKit Go.Sort
attribute [local go_sem] strOfNums_size ext_drop ext_take
section
variable {P : Program} {w : World}
/-- A row that lies in cells is appended to an own row. -/
theorem wpList_append_rows {ops : Array Oper} {rest : List Oper} {o : Oper} {a : Act} {Q : Exit → Act → World → Prop} (hgd : o.guard = none) (s x : Operand) (t : TypeId)
    (ho : o.op = .call { callee := .builtin .append, args := #[s, x], argTypes := #[t, t] })
    (base : Nat) (e : TypeId) (i : TypeInfo) (z : Value) (size bytes : Nat) (ht : P.underlying t = some (.slice e)) (hi : P.info? e = some i) (hz : i.zero = some z)
    (hsize : i.size = size) (hby : i.bytes = bytes) (hzs : z.cells.size = size) (hsz : 0 < size)
    (v : Value) (n : Nat) (xs : List Value) (hs : a.eval s = v) (hown : w.ownsRow base e size v n xs)
    (ad : Option Addr) (m c : Nat) (news : List Value) (hx : a.eval x = .slice ad m c) (hl : news.length = m * size)
    (hnews : (∃ p, ad = some p ∧ ∀ (j : Nat) (u : Value), news[j]? = some u → w.cell? (p.add j) = some u) ∨ (ad = none ∧ c = 0 ∧ m = 0)) (h1 : ∀ u ∈ news, u.oneCell' = true)
    (h63 : n + m ≤ maxLen) (hbytes : (n + m) * bytes ≤ 140737488355328) (hbase : base ≤ w.heap.size)
    (h : ∀ v' w', w'.ownsRow base e size v' (n + m) (xs ++ news) → w.grownBy w' v.ownBlock → wpList P ops Q rest (a.put o.dst v') w') : wpList P ops Q (o :: rest) a w := by
  rcases hnews with ⟨p, rfl, hc⟩ | ⟨rfl, rfl, rfl⟩
  · exact wpList_append_own w hgd s x t ho base e i z size bytes ht hi hz hsize hby hzs hsz v n xs hs hown p m c news hx hl hc h1 h63 hbytes hbase fun v' w' h2 h3 _ => h v' w' h2 h3
  · have hn : news = [] := List.length_eq_zero_iff.1 (by rw [hl]; simp)
    subst hn
    refine wpList_plain hgd fun K hK => ?_
    unfold Oper.wp execOp
    simp only [ho, resolve, invoke, builtin, Sem.run_bind, Sem.run_pure, Result.andThen_ok, List.map_toArray, List.map_cons, List.map_nil, hs, hx, run_append_owned_none (P := P) w base t o.type e i size ht hi v n xs hown]
    exact hK _ _ (h v w (by rw [List.append_nil]; exact hown) ⟨rfl, rfl, rfl, Nat.le_refl _, fun _ _ _ => rfl⟩)
end
theorem news_slice {w : World} {base : Nat} {e : TypeId} {v : Value} {l : List By} (h : w.ownsRow base e 1 v l.length (l.map sv)) : ∃ ad c, v = .slice ad l.length c ∧ NewsAt w w.heap.size ad l.length c (l.map sv) := by
  obtain ⟨ad, c, h1, h2, _⟩ := newsAt_of_row h
  exact ⟨ad, c, h1, h2⟩
end
section
open Go.RowKit Go.Sort
attribute [local go_sem] ByteArray.mk_append_mk strOfNums_size ext_drop ext_take
theorem row_own_lt {w : World} {base : Nat} {e : TypeId} {size : Nat} {v : Value} {n : Nat} {xs : List Value} (h : w.ownsRow base e size v n xs) {k : Nat} (hk : v.ownBlock = some k) : k < w.heap.size := by
  rcases h.2 with ⟨rfl, _⟩ | ⟨g, cap, cur, rfl, _, hb, _⟩
  · simp [Value.ownBlock] at hk
  · have : g = k := Option.some.inj hk
    subst this; exact lt_of_block hb
end
section
open Go.RowKit Go.Sort
attribute [local go_sem] ByteArray.mk_append_mk strOfNums_size ext_drop ext_take
theorem row_all {w : World} {base : Nat} {e : TypeId} {v : Value} {l : List By} (h : w.ownsRow base e 1 v l.length (l.map sv)) : ∃ a cap, v = .slice a l.length cap ∧ Strs w w.heap.size a l ∧ l.length ≤ cap ∧ cap ≤ 9223372036854775807 := by
  have h0 := h
  obtain ⟨a, c, rfl, hs, hc⟩ := strs_of_row h
  refine ⟨a, c, rfl, hs, hc, ?_⟩
  rcases h0.2 with ⟨h1, _⟩ | ⟨g, cap, cur, h1, _, _, q1, q2, _⟩
  · have := (Value.slice.inj h1).2.2; omega
  · have := (Value.slice.inj h1).2.2; unfold maxLen at q2; omega
end
section
open Go.RowKit Go.Sort
theorem Only.cell {S : List Nat} {w w' : World} (h : Only S w w') {p : Addr} (hp : p.block < w.heap.size) (hn : p.block ∉ S) : w'.cell? p = w.cell? p := World.cell?_of_block (w := w) (h.block p.block hp hn)
/-- Texts in a row, from a block on. -/
structure StrsIn (w : World) (lo : Nat) (a : Option Addr) (l : List By) : Prop where
  cells : l ≠ [] → ∃ b, a = some ⟨b, 0, none⟩ ∧ lo ≤ b ∧ b < w.heap.size ∧ ∀ i (h : i < l.length), w.cell? ⟨b, i, none⟩ = some (.string ⟨l[i].toArray⟩)
theorem strsIn_of_row {w : World} {base : Nat} {e : TypeId} {v : Value} {l : List By} (h : w.ownsRow base e 1 v l.length (l.map sv)) : ∃ a cap, v = .slice a l.length cap ∧ StrsIn w base a l := by
  rcases h.2 with ⟨rfl, hn⟩ | ⟨g, cap, cur, rfl, hbase, hblk, q1, q2, q3, q4⟩
  · have : l = [] := List.length_eq_zero_iff.1 hn
    subst this; exact ⟨none, 0, rfl, ⟨fun h => absurd rfl h⟩⟩
  · refine ⟨_, cap, rfl, ⟨fun _ => ⟨g, rfl, hbase, lt_of_block hblk, fun i hi => ?_⟩⟩⟩
    rw [cell_of_row w g i cur e (0, 0) hblk]
    have hi2 : (l.map sv)[i]? = some (.string ⟨l[i].toArray⟩) := by simp [hi, sv]
    rw [← q4, Nat.mul_one, List.getElem?_take, if_pos hi] at hi2
    simpa using hi2
end
end Go.Proofs.YtcidbmldbikknaaGreatDoor

/-
  Walk: the key that an appended record gets, by the reference. Conditions: a valid content; pairs in memory, not too many. Pairs that are appended to a row of the call's own. No condition but the lengths. A content after a change, by the reference: what its blocks hold, and the plain answer. No walk.
  Walks: an empty content; whether a record of the log is small. Condition: it lies in memory.
  Plain: what a unit of recovery computes: its reads, its own changes. No walk.
  Plain: the order of keys, sorted pairs, what puts and erases keep. No walk. Plain: a content after a put or an erase is that of the reference. No walk. Plain: a content after an append is that of the reference, and so after any change. No walk. Whether two descriptions, two pairs are equal: the operation '=='. No walk. Walks: two rows of pairs, two contents compared. Conditions: both in memory.
-/
import Derived.Test.YtcefkngblddpoaaGreatDoorG19
import Derived.Test.YtcefkngblddpoaaGreatDoorG23
import Derived.Test.YtcefkngblddpoaaGreatDoorG18
import Derived.Laws.StructEq
namespace Go.Proofs.YtcefkngblddpoaaGreatDoor

section
section
open Go.RowKit Go.Sort
variable {z : Rest}
section
attribute [local go_sem ↓] loadDs_down loadCo_down storeCo_down loadCh_down
end
end
section
open Go.RowKit Go.Sort
variable {ops : Array Oper} {rest : List Oper} {o : Oper} {a : Act} {Q : Exit → Act → World → Prop} {w : World} {K : Act → World → Prop} {E : Prop}
theorem Prs.drop {B : Nat} {g off : Nat} {l : List Pr} (h : Prs w B (some ⟨g, off, none⟩) l) (k : Nat) : Prs w B (some ⟨g, off + k * 2, none⟩) (l.drop k) :=
 ⟨fun hl => by
   have hn : l ≠ [] := fun e => hl (by rw [e]; simp)
   obtain ⟨b, o', h1, h2, h3⟩ := h.cells hn
   have e : b = g ∧ o' = off := by injection h1 with h1; injection h1 with h1 h2 _; exact ⟨h1.symm, h2.symm⟩
   obtain ⟨rfl, rfl⟩ := e
   refine ⟨b, _, rfl, h2, fun i hi => ?_⟩
   have hi' : k + i < l.length := by rw [List.length_drop] at hi; omega
   have := h3 (k + i) hi'
   rw [List.getElem_drop, show o' + k * 2 + i * 2 = o' + (k + i) * 2 by omega]
   exact this⟩
end
section
open Go.RowKit Go.Sort
variable {z : Rest}
def storeCh (p : Addr) (v : Value) : Sem Unit := storeVar 36 p v
theorem storeCh_down (p : Addr) (v : Value) : storeVar 36 p v = storeCh p v := rfl
theorem storeCh_at {w : World} {g : Nat} {cs : Array Value} {t : TypeId} {old : Array Value} (hg : w.heap[g]? = some (.cells old t (0, 0))) (hi : cs.size = 5) (ho : old.size = 5) (h1 : cs.all (·.oneCell') = true) : (storeCh ⟨g, 0, none⟩ (.agg cs)).run Tryz.prog w = .ok () (w.setRow g cs) :=
 run_storeVar_row (P := Tryz.prog) w g t 36 old cs hg (by rw [info_ch, hi]) (by rw [ho, hi]) h1
theorem loadCh_at {w : World} {g : Nat} {cs : Array Value} {t : TypeId} {fr : Nat × Nat} (hg : w.heap[g]? = some (.cells cs t fr)) (hi : cs.size = 5) : (loadCh ⟨g, 0, none⟩).run Tryz.prog w = .ok (.agg cs) w :=
 run_loadVar_row (P := Tryz.prog) w g t 36 cs fr _ hg Tryz.underlying36 rfl (by rw [info_ch, hi])
abbrev chZ : Array Value := #[.int .i64 0, .int .i64 0, .string ⟨#[]⟩, .string ⟨#[]⟩, .string ⟨#[]⟩]
/-- A content, a change with its number, a result and the change in their blocks. -/
structure RdSt (w W : World) (z : Rest) (org fmt len blk ap : Int) (a : Option Addr) (m c : Nat) (n kind id : Int) (key rec vol : By) : Prop where
 con : W.heap[w.heap.size]? = some (.cells (conC z org fmt len blk ap a m c) 48 (0, 0))
 num : W.heap[w.heap.size + 1]? = some (.cells (numC n kind id key rec vol) 125 (0, 0))
 res : W.heap[w.heap.size + 2]? = some (.cells conZ 48 (0, 0))
 ch : W.heap[w.heap.size + 3]? = some (.cells (chC kind id key rec vol) 36 (0, 0))
 bel : Below w.heap.size w W
 size : w.heap.size + 4 ≤ W.heap.size
theorem RdSt.below {w W W' : World} {org fmt len blk ap : Int} {a : Option Addr} {m c : Nat} {n kind id : Int} {key rec vol : By} {B : Nat} (h : RdSt w W z org fmt len blk ap a m c n kind id key rec vol) (hb : Below B W W') (hB : w.heap.size + 4 ≤ B) : RdSt w W' z org fmt len blk ap a m c n kind id key rec vol :=
 ⟨heap_below hb (by omega) h.con, heap_below hb (by omega) h.num, heap_below hb (by omega) h.res, heap_below hb (by omega) h.ch, h.bel.trans (hb.mono (by omega)), Nat.le_trans h.size hb.size⟩
end
end

section
open Go.RowKit Go.Sort
variable {z : Rest}
/-- A change. -/
structure Ch where
 kind : Int
 id : Int
 key : By
 dat : By
 vol : By
instance : Inhabited Ch := ⟨⟨0, 0, [], [], []⟩⟩
abbrev Ch.cs (x : Ch) : Array Value := chC x.kind x.id x.key x.dat x.vol
/-- Changes in memory, below block B. -/
structure Chs (w : World) (B : Nat) (a : Option Addr) (l : List Ch) : Prop where
 cells : l ≠ [] → ∃ b off, a = some ⟨b, off, none⟩ ∧ b < B ∧ ∀ i (h : i < l.length), w.cell? ⟨b, off + i * 5, none⟩ = some (.int .i64 l[i].kind) ∧ w.cell? ⟨b, off + i * 5 + 1, none⟩ = some (.int .i64 l[i].id) ∧
  w.cell? ⟨b, off + i * 5 + 2, none⟩ = some (.string ⟨l[i].key.toArray⟩) ∧ w.cell? ⟨b, off + i * 5 + 3, none⟩ = some (.string ⟨l[i].dat.toArray⟩) ∧ w.cell? ⟨b, off + i * 5 + 4, none⟩ = some (.string ⟨l[i].vol.toArray⟩)
theorem loadCh_mid {w : World} {b o : Nat} {x : Ch} (h0 : w.cell? ⟨b, o, none⟩ = some (.int .i64 x.kind)) (h1 : w.cell? ⟨b, o + 1, none⟩ = some (.int .i64 x.id)) (h2 : w.cell? ⟨b, o + 2, none⟩ = some (.string ⟨x.key.toArray⟩)) (h3 : w.cell? ⟨b, o + 3, none⟩ = some (.string ⟨x.dat.toArray⟩)) (h4 : w.cell? ⟨b, o + 4, none⟩ = some (.string ⟨x.vol.toArray⟩)) :
 (loadCh ⟨b, o, none⟩).run Tryz.prog w = .ok (.agg x.cs) w :=
 run_loadVar_mid (P := Tryz.prog) w b o 36 [.int .i64 x.kind, .int .i64 x.id, .string ⟨x.key.toArray⟩, .string ⟨x.dat.toArray⟩, .string ⟨x.vol.toArray⟩] _ (fun j v hj => by
  match j with
  | 0 => simp at hj; subst hj; exact h0
  | 1 => simp at hj; subst hj; exact h1
  | 2 => simp at hj; subst hj; exact h2
  | 3 => simp at hj; subst hj; exact h3
  | 4 => simp at hj; subst hj; exact h4
  | j + 5 => simp at hj) Tryz.underlying36 rfl (by rw [info_ch]; rfl)
theorem Chs.get {w : World} {B a l} (h : Chs w B a l) {i : Nat} (hi : i < l.length) : ∃ b off, a = some ⟨b, off, none⟩ ∧ b < B ∧ ∀ W, Below B w W → (loadCh ⟨b, off + i * 5, none⟩).run Tryz.prog W = .ok (.agg l[i].cs) W := by
 obtain ⟨b, off, h1, h2, h3⟩ := h.cells (fun e => by rw [e] at hi; simp at hi)
 obtain ⟨c0, c1, c2, c3, c4⟩ := h3 i hi
 exact ⟨b, off, h1, h2, fun W hb => loadCh_mid ((hb.cell (p := ⟨b, off + i * 5, none⟩) h2).trans c0) ((hb.cell (p := ⟨b, off + i * 5 + 1, none⟩) h2).trans c1) ((hb.cell (p := ⟨b, off + i * 5 + 2, none⟩) h2).trans c2) ((hb.cell (p := ⟨b, off + i * 5 + 3, none⟩) h2).trans c3) ((hb.cell (p := ⟨b, off + i * 5 + 4, none⟩) h2).trans c4)⟩
theorem Chs.below {w w' : World} {B a l} (h : Chs w B a l) (hb : Below B w w') : Chs w' B a l :=
 ⟨fun hl => by
   obtain ⟨b, off, h1, h2, h3⟩ := h.cells hl
   exact ⟨b, off, h1, h2, fun i hi => by
    obtain ⟨c0, c1, c2, c3, c4⟩ := h3 i hi
    exact ⟨(hb.cell (p := ⟨b, off + i * 5, none⟩) h2).trans c0, (hb.cell (p := ⟨b, off + i * 5 + 1, none⟩) h2).trans c1, (hb.cell (p := ⟨b, off + i * 5 + 2, none⟩) h2).trans c2, (hb.cell (p := ⟨b, off + i * 5 + 3, none⟩) h2).trans c3, (hb.cell (p := ⟨b, off + i * 5 + 4, none⟩) h2).trans c4⟩⟩⟩
theorem Chs.mono {w : World} {B B' a l} (h : Chs w B a l) (hB : B ≤ B') : Chs w B' a l :=
 ⟨fun hl => by obtain ⟨b, off, h1, h2, h3⟩ := h.cells hl; exact ⟨b, off, h1, by omega, h3⟩⟩
/-- A change in a block of its own. -/
theorem put_ch (w : World) (x : Ch) : ∃ W, (storeCh ⟨w.heap.size, 0, none⟩ (.agg x.cs)).run Tryz.prog (w.alloc (.cells chZ 36)) = .ok () W ∧ W.heap[w.heap.size]? = some (.cells x.cs 36 (0, 0)) ∧ Below w.heap.size w W := by
 have hz := heap_alloc_new w (.cells chZ 36)
 exact ⟨_, storeCh_at hz rfl rfl (by simp [Value.oneCell']), setRow_heap _ _ _ _ _ _ hz, below_setRow (box_below0 w chZ 36) (Nat.le_refl _) _⟩
abbrev lrC (num unit : Int) (a : Option Addr) (n c : Nat) : Array Value := #[.int .i64 num, .int .i64 unit, .slice a n c]
section
attribute [local go_sem ↓] loadCh_down storeCh_down loadDs_down storeCo_down
end
end

section
open Go.RowKit Go.Sort
/-- What a unit has read. -/
structure Rd where
 kind : Int
 id : Int
 key : By
 akey : By
 arec : By
 code : Int
deriving DecidableEq
instance : Inhabited Rd := ⟨⟨0, 0, [], [], [], 0⟩⟩
abbrev Rd.cs (x : Rd) : Array Value := #[.int .i64 x.kind, .int .i64 x.id, .string ⟨x.key.toArray⟩, .string ⟨x.akey.toArray⟩, .string ⟨x.arec.toArray⟩, .int .i64 x.code]
/-- What a unit has changed in a data set: whether it was emptied, the keys (with the record, if there is one), the lengths of what was appended. -/
structure Ow where
 emp : Bool
 keys : List (By × Option By)
 lens : List Nat
instance : Inhabited Ow := ⟨⟨false, [], []⟩⟩
/-- A unit. -/
structure Un where
 num : Int
 chs : List Ch
 sets : List (Int × Ow)
 reads : List Rd
instance : Inhabited Un := ⟨⟨0, [], [], []⟩⟩
/-- What the unit sees of a key that it has changed (none: it has not). -/
def chgU (u : Un) (id : Int) (k : By) : Option (Option By) := match alook u.sets id with
 | none => none
 | some x => match alook x.keys k with
   | some s => some s
   | none => if x.emp then some none else none
def pointR (k : By) : Rg := ⟨k, k, false⟩
def fromR (k : By) : Rg := ⟨k, [], true⟩
def lockU (u : Un) (s : Ls) (id : Int) (r : Rg) (x : Bool) : Int × Ls := reqP s ⟨u.num, id, r, x⟩
/-- The record with a key, as the unit sees it; C: the committed pairs. -/
def getU (C : Int → List Pr) (u : Un) (s : Ls) (id : Int) (k : By) : (By × Int) × Ls :=
 if k.length < 1 ∨ 32 < k.length then (([], 1), s) else
 match lockU u s id (pointR k) false with
 | (e, s') => if e ≠ 0 then (([], e), s') else match chgU u id k with
   | none => (getL k (C id), s')
   | some none => (([], 6), s')
   | some (some r) => ((r, 0), s')
def noteU (u : Un) (kind id : Int) (k a r : By) (e : Int) : Un := if e = 0 ∨ e = 6 then { u with reads := u.reads ++ [⟨kind, id, k, a, r, e⟩] } else u
/-- Reading with a key. -/
def getN (C : Int → List Pr) (u : Un) (s : Ls) (id : Int) (k : By) : (By × Int) × Un × Ls :=
 match getU C u s id k with
 | (q, s') => (q, (if (1 ≤ k.length ∧ k.length ≤ 32) ∧ chgU u id k = none then noteU u 0 id k (if q.2 = 0 then k else []) (if q.2 = 0 then q.1 else []) q.2 else u), s')
/-- The first committed pair behind a key that the unit has not changed. -/
def comU (C : Int → List Pr) (u : Un) (id : Int) (k : By) : Option Pr := match alook u.sets id with
 | some x => if x.emp then none else (C id).find? (fun p => Op.bytesLess k p.1 && (alook x.keys p.1).isNone)
 | none => (C id).find? (fun p => Op.bytesLess k p.1)
/-- The better of two pairs: that with the smaller key. -/
def betU (k : By) (q : Option Pr) (p : By × Option By) : Option Pr := match p.2 with
 | none => q
 | some r => if Op.bytesLess k p.1 then (match q with
   | none => some (p.1, r)
   | some o => if Op.bytesLess p.1 o.1 then some (p.1, r) else q) else q
def keysU (u : Un) (id : Int) : List (By × Option By) := match alook u.sets id with
 | some x => x.keys
 | none => []
/-- The first pair behind a key. -/
def nxtU (C : Int → List Pr) (u : Un) (id : Int) (k : By) : Option Pr := (keysU u id).foldl (betU k) (comU C u id k)
def rangeN (k : By) : Option Pr → Rg
 | some p => ⟨k, p.1, false⟩
 | none => fromR k
def answN : Option Pr → By × By × Int
 | some p => (p.1, p.2, 0)
 | none => ([], [], 6)
def nextU (C : Int → List Pr) (u : Un) (s : Ls) (id : Int) (k : By) : (By × By × Int) × Ls :=
 if 32 < k.length then (([], [], 1), s) else
 match lockU u s id (rangeN k (nxtU C u id k)) false with
 | (e, s') => if e ≠ 0 then (([], [], e), s') else (answN (nxtU C u id k), s')
def nextN (C : Int → List Pr) (u : Un) (s : Ls) (id : Int) (k : By) : (By × By × Int) × Un × Ls :=
 match nextU C u s id k with
 | (q, s') => (q, (if (alook u.sets id).isNone then noteU u 1 id k q.1 q.2.1 q.2.2 else u), s')
end

section
set_option maxRecDepth 100000
section
open Go.RowKit Go.Sort
variable {z : Rest}
/-- Keys rise. -/
def Rise (l : List Pr) : Prop := l.Pairwise (fun p q => Op.bytesLess p.1 q.1 = true)
end
section
open Go.RowKit Go.Sort
variable {z : Rest}
end
section
open Go.RowKit Go.Sort
variable {z : Rest}
end
section
open Go.RowKit Go.Sort
theorem eqF_step {w : World} {d : Nat} {xs ys : Array Value} {f : Field} {fs : List Field} {a b : Value} {r q : Bool} (hn : f.name ≠ "_") (ha : (part f.type xs f.offset).run Tryz.prog w = .ok a w) (hb : (part f.type ys f.offset).run Tryz.prog w = .ok b w)
 (he : (Op.equalIn d f.type a b).run Tryz.prog w = .ok r w) (hq : (Op.eqFields d xs ys fs).run Tryz.prog w = .ok q w) : (Op.eqFields d xs ys (f :: fs)).run Tryz.prog w = .ok (r && q) w := by
 simp only [Op.eqFields, if_pos hn, Sem.run_bind, ha, hb, he, Result.andThen_ok]
 cases r with
 | true => simpa using hq
 | false => simp
theorem eqF_nil {w : World} {d : Nat} {xs ys : Array Value} : (Op.eqFields d xs ys []).run Tryz.prog w = .ok true w := by simp [Op.eqFields]
theorem part_int {w : World} {o : Nat} {xs : Array Value} {v : Value} (h : xs[o]? = some v) : (part 3 xs o).run Tryz.prog w = .ok v w := by
 simp [part, run_isAgg_plain Tryz.underlying3 rfl, h]
theorem part_bool {w : World} {o : Nat} {xs : Array Value} {v : Value} (h : xs[o]? = some v) : (part 4 xs o).run Tryz.prog w = .ok v w := by
 simp [part, run_isAgg_plain Tryz.underlying4 rfl, h]
theorem part_str {w : World} {o : Nat} {xs : Array Value} {v : Value} (h : xs[o]? = some v) : (part 9 xs o).run Tryz.prog w = .ok v w := by
 simp [part, run_isAgg_plain Tryz.underlying9 rfl, h]
theorem eqI {w : World} {d : Nat} (a b : Int) : (Op.equalIn (d + 1) 3 (.int .i64 a) (.int .i64 b)).run Tryz.prog w = .ok (decide (a = b)) w := by
 rw [run_equalIn_int w d _ .i64 .i64 a b Tryz.underlying3]; rfl
theorem eqB {w : World} {d : Nat} (a b : Bool) : (Op.equalIn (d + 1) 4 (.bool a) (.bool b)).run Tryz.prog w = .ok (decide (a = b)) w := by
 rw [run_equalIn_bool' w d _ a b Tryz.underlying4]; cases a <;> cases b <;> rfl
theorem eqS {w : World} {d : Nat} (a b : By) : (Op.equalIn (d + 1) 9 (.string ⟨a.toArray⟩) (.string ⟨b.toArray⟩)).run Tryz.prog w = .ok (decide (a = b)) w := by
 rw [run_equalIn_string w d _ _ _ Tryz.underlying9]
 rw [ByteArray.toList_eq, ByteArray.toList_eq]
 congr 1
 show (a.toArray.toList == b.toArray.toList) = decide (a = b)
 rw [Bool.eq_iff_iff]; simp
theorem eqI9 {w : World} (a b : Int) : (Op.equalIn 9999 3 (.int .i64 a) (.int .i64 b)).run Tryz.prog w = .ok (decide (a = b)) w := eqI (d := 9998) a b
theorem eqB9 {w : World} (a b : Bool) : (Op.equalIn 9999 4 (.bool a) (.bool b)).run Tryz.prog w = .ok (decide (a = b)) w := eqB (d := 9998) a b
theorem eqS9 {w : World} (a b : By) : (Op.equalIn 9999 9 (.string ⟨a.toArray⟩) (.string ⟨b.toArray⟩)).run Tryz.prog w = .ok (decide (a = b)) w := eqS (d := 9998) a b
/-- Whether two pairs are equal. -/
def eqP (x y : Pr) : Bool := decide (x.1 = y.1) && (decide (x.2 = y.2) && true)
theorem eqP_iff (x y : Pr) : eqP x y = decide (x = y) := by
 obtain ⟨a, b⟩ := x
 obtain ⟨c, d⟩ := y
 unfold eqP
 rw [Bool.eq_iff_iff]; simp
theorem pair_fields : (Tryz.prog.fieldsOf 50).toList = [{ name := "Key", type := 9, offset := 0, embedded := false, tag := "", pkgPath := "", byteOffset := 0 },
 { name := "Record", type := 9, offset := 1, embedded := false, tag := "", pkgPath := "", byteOffset := 16 }] := by kernel_rfl
theorem neq_pair (x y : Pr) (w : World) : (binOp .neq 50 (.agg #[.string ⟨x.1.toArray⟩, .string ⟨x.2.toArray⟩]) (.agg #[.string ⟨y.1.toArray⟩, .string ⟨y.2.toArray⟩])).run Tryz.prog w = .ok (.bool (!decide (x = y))) w := by
 rw [run_neq_struct, run_equalIn_struct w 9999 _ _ _ (by kernel_rfl) (by kernel_rfl), pair_fields,
  eqF_step (by decide +kernel) (part_str rfl) (part_str rfl) (eqS (d := 9998) x.1 y.1) (eqF_step (by decide +kernel) (part_str rfl) (part_str rfl) (eqS (d := 9998) x.2 y.2) eqF_nil)]
 rw [← eqP_iff]; rfl
/-- Whether two descriptions are equal. -/
def eqD (z z' : Rest) (org fmt len blk org' fmt' len' blk' : Int) : Bool :=
 decide (z.id = z'.id) && (decide (org = org') && (decide (fmt = fmt') && (decide (len = len') && (decide (blk = blk') && (decide (z.kat = z'.kat) && (decide (z.klen = z'.klen) && (decide (z.ivl = z'.ivl) && (decide (z.area = z'.area) && (decide (z.fivl = z'.fivl) && (decide (z.fare = z'.fare) && (decide (z.base = z'.base) && (decide (z.aat = z'.aat) && (decide (z.alen = z'.alen) && (decide (z.uniq = z'.uniq) && (decide (z.cls = z'.cls) && (decide (z.vol = z'.vol) && (decide (z.own = z'.own) && (decide (z.cre = z'.cre) && (decide (z.exp = z'.exp) && (decide (z.arch = z'.arch) && true))))))))))))))))))))
theorem set_fields : (Tryz.prog.fieldsOf 45).toList = [
 { name := "Id", type := 3, offset := 0, embedded := false, tag := "", pkgPath := "", byteOffset := 0 },
 { name := "Org", type := 3, offset := 1, embedded := false, tag := "", pkgPath := "", byteOffset := 8 },
 { name := "Format", type := 3, offset := 2, embedded := false, tag := "", pkgPath := "", byteOffset := 16 },
 { name := "Length", type := 3, offset := 3, embedded := false, tag := "", pkgPath := "", byteOffset := 24 },
 { name := "Block", type := 3, offset := 4, embedded := false, tag := "", pkgPath := "", byteOffset := 32 },
 { name := "KeyAt", type := 3, offset := 5, embedded := false, tag := "", pkgPath := "", byteOffset := 40 },
 { name := "KeyLength", type := 3, offset := 6, embedded := false, tag := "", pkgPath := "", byteOffset := 48 },
 { name := "Interval", type := 3, offset := 7, embedded := false, tag := "", pkgPath := "", byteOffset := 56 },
 { name := "Area", type := 3, offset := 8, embedded := false, tag := "", pkgPath := "", byteOffset := 64 },
 { name := "FreeInterval", type := 3, offset := 9, embedded := false, tag := "", pkgPath := "", byteOffset := 72 },
 { name := "FreeArea", type := 3, offset := 10, embedded := false, tag := "", pkgPath := "", byteOffset := 80 },
 { name := "Base", type := 3, offset := 11, embedded := false, tag := "", pkgPath := "", byteOffset := 88 },
 { name := "AltAt", type := 3, offset := 12, embedded := false, tag := "", pkgPath := "", byteOffset := 96 },
 { name := "AltLength", type := 3, offset := 13, embedded := false, tag := "", pkgPath := "", byteOffset := 104 },
 { name := "Unique", type := 4, offset := 14, embedded := false, tag := "", pkgPath := "", byteOffset := 112 },
 { name := "Class", type := 3, offset := 15, embedded := false, tag := "", pkgPath := "", byteOffset := 120 },
 { name := "Volume", type := 9, offset := 16, embedded := false, tag := "", pkgPath := "", byteOffset := 128 },
 { name := "Owner", type := 9, offset := 17, embedded := false, tag := "", pkgPath := "", byteOffset := 144 },
 { name := "Created", type := 3, offset := 18, embedded := false, tag := "", pkgPath := "", byteOffset := 160 },
 { name := "Expires", type := 3, offset := 19, embedded := false, tag := "", pkgPath := "", byteOffset := 168 },
 { name := "Archived", type := 4, offset := 20, embedded := false, tag := "", pkgPath := "", byteOffset := 176 }] := by kernel_rfl
theorem set_run (z z' : Rest) (org fmt len blk org' fmt' len' blk' : Int) (w : World) : (Op.eqFields 9999 (dsv z org fmt len blk) (dsv z' org' fmt' len' blk') [
 { name := "Id", type := 3, offset := 0, embedded := false, tag := "", pkgPath := "", byteOffset := 0 },
 { name := "Org", type := 3, offset := 1, embedded := false, tag := "", pkgPath := "", byteOffset := 8 },
 { name := "Format", type := 3, offset := 2, embedded := false, tag := "", pkgPath := "", byteOffset := 16 },
 { name := "Length", type := 3, offset := 3, embedded := false, tag := "", pkgPath := "", byteOffset := 24 },
 { name := "Block", type := 3, offset := 4, embedded := false, tag := "", pkgPath := "", byteOffset := 32 },
 { name := "KeyAt", type := 3, offset := 5, embedded := false, tag := "", pkgPath := "", byteOffset := 40 },
 { name := "KeyLength", type := 3, offset := 6, embedded := false, tag := "", pkgPath := "", byteOffset := 48 },
 { name := "Interval", type := 3, offset := 7, embedded := false, tag := "", pkgPath := "", byteOffset := 56 },
 { name := "Area", type := 3, offset := 8, embedded := false, tag := "", pkgPath := "", byteOffset := 64 },
 { name := "FreeInterval", type := 3, offset := 9, embedded := false, tag := "", pkgPath := "", byteOffset := 72 },
 { name := "FreeArea", type := 3, offset := 10, embedded := false, tag := "", pkgPath := "", byteOffset := 80 },
 { name := "Base", type := 3, offset := 11, embedded := false, tag := "", pkgPath := "", byteOffset := 88 },
 { name := "AltAt", type := 3, offset := 12, embedded := false, tag := "", pkgPath := "", byteOffset := 96 },
 { name := "AltLength", type := 3, offset := 13, embedded := false, tag := "", pkgPath := "", byteOffset := 104 },
 { name := "Unique", type := 4, offset := 14, embedded := false, tag := "", pkgPath := "", byteOffset := 112 },
 { name := "Class", type := 3, offset := 15, embedded := false, tag := "", pkgPath := "", byteOffset := 120 },
 { name := "Volume", type := 9, offset := 16, embedded := false, tag := "", pkgPath := "", byteOffset := 128 },
 { name := "Owner", type := 9, offset := 17, embedded := false, tag := "", pkgPath := "", byteOffset := 144 },
 { name := "Created", type := 3, offset := 18, embedded := false, tag := "", pkgPath := "", byteOffset := 160 },
 { name := "Expires", type := 3, offset := 19, embedded := false, tag := "", pkgPath := "", byteOffset := 168 },
 { name := "Archived", type := 4, offset := 20, embedded := false, tag := "", pkgPath := "", byteOffset := 176 }]).run Tryz.prog w = .ok (eqD z z' org fmt len blk org' fmt' len' blk') w := by
 unfold eqD
 exact eqF_step (by decide +kernel) (part_int rfl) (part_int rfl) (eqI9 z.id z'.id) (eqF_step (by decide +kernel) (part_int rfl) (part_int rfl) (eqI9 org org') (eqF_step (by decide +kernel) (part_int rfl) (part_int rfl) (eqI9 fmt fmt') (eqF_step (by decide +kernel) (part_int rfl) (part_int rfl) (eqI9 len len') (eqF_step (by decide +kernel) (part_int rfl) (part_int rfl) (eqI9 blk blk') (eqF_step (by decide +kernel) (part_int rfl) (part_int rfl) (eqI9 z.kat z'.kat) (eqF_step (by decide +kernel) (part_int rfl) (part_int rfl) (eqI9 z.klen z'.klen) (eqF_step (by decide +kernel) (part_int rfl) (part_int rfl) (eqI9 z.ivl z'.ivl) (eqF_step (by decide +kernel) (part_int rfl) (part_int rfl) (eqI9 z.area z'.area) (eqF_step (by decide +kernel) (part_int rfl) (part_int rfl) (eqI9 z.fivl z'.fivl) (eqF_step (by decide +kernel) (part_int rfl) (part_int rfl) (eqI9 z.fare z'.fare) (eqF_step (by decide +kernel) (part_int rfl) (part_int rfl) (eqI9 z.base z'.base) (eqF_step (by decide +kernel) (part_int rfl) (part_int rfl) (eqI9 z.aat z'.aat) (eqF_step (by decide +kernel) (part_int rfl) (part_int rfl) (eqI9 z.alen z'.alen) (eqF_step (by decide +kernel) (part_bool rfl) (part_bool rfl) (eqB9 z.uniq z'.uniq) (eqF_step (by decide +kernel) (part_int rfl) (part_int rfl) (eqI9 z.cls z'.cls) (eqF_step (by decide +kernel) (part_str rfl) (part_str rfl) (eqS9 z.vol z'.vol) (eqF_step (by decide +kernel) (part_str rfl) (part_str rfl) (eqS9 z.own z'.own) (eqF_step (by decide +kernel) (part_int rfl) (part_int rfl) (eqI9 z.cre z'.cre) (eqF_step (by decide +kernel) (part_int rfl) (part_int rfl) (eqI9 z.exp z'.exp) (eqF_step (by decide +kernel) (part_bool rfl) (part_bool rfl) (eqB9 z.arch z'.arch) eqF_nil))))))))))))))))))))
theorem eql_set (z z' : Rest) (org fmt len blk org' fmt' len' blk' : Int) (w : World) : (binOp .eql 45 (.agg (dsv z org fmt len blk)) (.agg (dsv z' org' fmt' len' blk'))).run Tryz.prog w = .ok (.bool (eqD z z' org fmt len blk org' fmt' len' blk')) w := by
 rw [run_eql_struct, run_equalIn_struct w 9999 _ _ _ (by kernel_rfl) (by kernel_rfl), set_fields, set_run]
 rfl
end
section
open Go.RowKit Go.Sort
variable {z z' : Rest}
def samePr (p q p2 q2 : By) : Bool := decide ((p, q) = (p2, q2))
theorem neq_pr (p q p2 q2 : By) (w : World) : (binOp .neq 50 (.agg #[.string ⟨p.toArray⟩, .string ⟨q.toArray⟩]) (.agg #[.string ⟨p2.toArray⟩, .string ⟨q2.toArray⟩])).run Tryz.prog w = .ok (.bool (!samePr p q p2 q2)) w := neq_pair (p, q) (p2, q2) w
section
attribute [local go_sem ↓] loadDs_down loadPr_down neq_pr
end
section
attribute [local go_sem ↓] loadDs_down eql_set
end
end
end

end Go.Proofs.YtcefkngblddpoaaGreatDoor

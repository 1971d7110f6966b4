/-
  Walk: the key that an appended record gets, by the reference. Conditions: a valid content; pairs in memory, not too many.
  Pairs that are appended to a row of the call's own. No condition but the lengths.
  A content after a change, by the reference: what its blocks hold, and the plain answer. No walk.
  Walk: a content after a change, by the reference, where it is refused at once or changes nothing. Conditions: pairs in memory, not too many.
  Walk: a content after a change, by the reference: the kinds that leave the pairs as they are, or take them all. Conditions: a valid content and change; pairs in memory, not too many.
-/
import Derived.Test.YtckpepfkfjdnhaaGreatDoorQW
import Derived.Test.YtckpepfkfjdnhaaGreatDoorQJ17
import Derived.Test.YtckpepfkfjdnhaaGreatDoorQJ21
import Derived.Lib.Walk
namespace Go.Proofs.YtckpepfkfjdnhaaGreatDoor

section
open Go.RowKit Go.Sort
variable {z : Rest}

section
attribute [local go_sem ↓] loadDs_down loadCo_down storeCo_down loadCh_down
end
end

section
open Go.RowKit Go.Sort

variable {ops : Array Oper} {rest : List Oper} {o : Oper} {a : Act} {Q : Exit → Act → World → Prop} {w : World} {K : Act → World → Prop} {E : Prop}
theorem Prs.drop {B : Nat} {g off : Nat} {l : List Pr} (h : Prs w B (some ⟨g, off, none⟩) l) (k : Nat) : Prs w B (some ⟨g, off + k * 2, none⟩) (l.drop k) :=
 ⟨fun hl => by
   have hn : l ≠ [] := fun e => hl (by rw [e]; simp)
   obtain ⟨b, o', h1, h2, h3⟩ := h.cells hn
   have e : b = g ∧ o' = off := by injection h1 with h1; injection h1 with h1 h2 _; exact ⟨h1.symm, h2.symm⟩
   obtain ⟨rfl, rfl⟩ := e
   refine ⟨b, _, rfl, h2, fun i hi => ?_⟩
   have hi' : k + i < l.length := by rw [List.length_drop] at hi; omega
   have := h3 (k + i) hi'
   rw [List.getElem_drop, show o' + k * 2 + i * 2 = o' + (k + i) * 2 by omega]
   exact this⟩

end

section
open Go.RowKit Go.Sort
variable {z : Rest}

def storeCh (p : Addr) (v : Value) : Sem Unit := storeVar 28 p v
theorem storeCh_down (p : Addr) (v : Value) : storeVar 28 p v = storeCh p v := rfl
theorem storeCh_at {w : World} {g : Nat} {cs : Array Value} {t : TypeId} {old : Array Value} (hg : w.heap[g]? = some (.cells old t (0, 0))) (hi : cs.size = 5) (ho : old.size = 5) (h1 : cs.all (·.oneCell') = true) : (storeCh ⟨g, 0, none⟩ (.agg cs)).run Tryz.prog w = .ok () (w.setRow g cs) :=
 run_storeVar_row (P := Tryz.prog) w g t 28 old cs hg (by rw [info_ch, hi]) (by rw [ho, hi]) h1
theorem loadCh_at {w : World} {g : Nat} {cs : Array Value} {t : TypeId} {fr : Nat × Nat} (hg : w.heap[g]? = some (.cells cs t fr)) (hi : cs.size = 5) : (loadCh ⟨g, 0, none⟩).run Tryz.prog w = .ok (.agg cs) w :=
 run_loadVar_row (P := Tryz.prog) w g t 28 cs fr _ hg Tryz.underlying28 rfl (by rw [info_ch, hi])
abbrev chZ : Array Value := #[.int .i64 0, .int .i64 0, .string ⟨#[]⟩, .string ⟨#[]⟩, .string ⟨#[]⟩]

/-- A content, a change with its number, a result and the change in their blocks. -/
structure RdSt (w W : World) (z : Rest) (org fmt len blk ap : Int) (a : Option Addr) (m c : Nat) (n kind id : Int) (key rec vol : By) : Prop where
 con : W.heap[w.heap.size]? = some (.cells (conC z org fmt len blk ap a m c) 26 (0, 0))
 num : W.heap[w.heap.size + 1]? = some (.cells (numC n kind id key rec vol) 30 (0, 0))
 res : W.heap[w.heap.size + 2]? = some (.cells conZ 26 (0, 0))
 ch : W.heap[w.heap.size + 3]? = some (.cells (chC kind id key rec vol) 28 (0, 0))
 bel : Below w.heap.size w W
 size : w.heap.size + 4 ≤ W.heap.size
theorem RdSt.below {w W W' : World} {org fmt len blk ap : Int} {a : Option Addr} {m c : Nat} {n kind id : Int} {key rec vol : By} {B : Nat} (h : RdSt w W z org fmt len blk ap a m c n kind id key rec vol) (hb : Below B W W') (hB : w.heap.size + 4 ≤ B) : RdSt w W' z org fmt len blk ap a m c n kind id key rec vol :=
 ⟨heap_below hb (by omega) h.con, heap_below hb (by omega) h.num, heap_below hb (by omega) h.res, heap_below hb (by omega) h.ch, h.bel.trans (hb.mono (by omega)), Nat.le_trans h.size hb.size⟩
/-- What a change leaves, by the reference. -/
def rdoR (z : Rest) (org : Int) (l : List Pr) (kind : Int) (key rec : By) : Int × List Pr :=
 if kind = 0 ∨ kind = 1 then
   if dirP org = false then (7, []) else if possP z org key = false then (2, [])
   else (0, (l.take (posL key l) ++ (if kind = 0 then [(key, rec)] else [])) ++ l.drop (if hasL key l = true then posL key l + 1 else posL key l))
 else if kind = 2 then if dirP org = true then (7, []) else (0, l ++ [(newK z org l rec, rec)])
 else if kind = 3 then (0, []) else (0, l)
end

section
open Go.RowKit Go.Sort
variable {z : Rest}

section
attribute [local go_sem ↓] loadDs_down loadCo_down storeCo_down loadCh_down storeCh_down
end
end

section
open Go.RowKit Go.Sort
variable {z : Rest}

section
attribute [local go_sem ↓] loadDs_down loadCo_down storeCo_down loadCh_down storeCh_down
end
end

end Go.Proofs.YtckpepfkfjdnhaaGreatDoor

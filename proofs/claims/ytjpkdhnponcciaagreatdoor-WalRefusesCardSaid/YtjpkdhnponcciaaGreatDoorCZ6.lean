/-
  Walk: what a change that puts a record does to pairs, by the program. Conditions: the description is valid; a row of the call's own; the laid table of segments' codes. Walk: what a change that puts a record does to pairs, by the program. Conditions: the description is valid; a row of the call's own; the laid table of segments' codes. Walks: what a change that erases, and one that empties, does to pairs, by the program. Conditions: a row of the call's own. Walk: what a change that appends a record does to pairs, by the program. Conditions: the description is valid; a row of the call's own; the laid table of segments' codes.
  Walk: what the kinds of changes do, as a map of functions, by the program. Conditions: a row of the call's own; the laid table of segments' codes. Walk: a content after a change, by the program's inner function. Conditions: the description is valid; pairs in memory, not too many; the laid table of segments' codes. Walk: a content after a change, by the program's inner function. Conditions: the description is valid; pairs in memory, not too many; the laid table of segments' codes. Walk: a content after a change, by the program. Conditions: pairs in memory, not too many; the laid table of segments' codes.
  Walk: the key that an appended record gets, by the reference. Conditions: a valid content; pairs in memory, not too many. Pairs that are appended to a row of the call's own. No condition but the lengths. A content after a change, by the reference: what its blocks hold, and the plain answer. No walk.
  Walks: an empty content; whether a record of the log is small. Condition: it lies in memory.
-/
import Derived.Test.YtjpkdhnponcciaaGreatDoorCZ5
import Derived.Test.YtjpkdhnponcciaaGreatDoorCBU
import Derived.Deep.RegionHeld3
namespace Go.Proofs.YtjpkdhnponcciaaGreatDoor

section
section
open Go.RowKit Go.Sort
variable {z : Rest}

end

section
open Go.RowKit Go.Sort
variable {z : Rest}

section
end
end

section
open Go.RowKit Go.Sort
variable {z : Rest}

section
end
end

section
open Go.RowKit Go.Sort
variable {z : Rest}

section
end
end
end

section
section
open Go.RowKit Go.Sort
variable {z : Rest}

end

section
open Go.RowKit Go.Sort
variable {z : Rest}

theorem info_ch : (Tryz.prog.info? 94).map (·.size) = some 5 := by kernel_rfl
def loadCh (p : Addr) : Sem Value := loadVar 94 p
theorem loadCh_down (p : Addr) : loadVar 94 p = loadCh p := rfl
end

section
open Go.RowKit Go.Sort
variable {z : Rest}

section
attribute [local go_sem ↓] loadCh_down
end
end

section
open Go.RowKit Go.Sort
variable {z : Rest}

section
attribute [local go_sem ↓] loadCh_down
end
end
end

section
section
open Go.RowKit Go.Sort
variable {z : Rest}

section
attribute [local go_sem ↓] loadCh_down
end
end

section
open Go.RowKit Go.Sort

variable {ops : Array Oper} {rest : List Oper} {o : Oper} {a : Act} {Q : Exit → Act → World → Prop} {w : World} {K : Act → World → Prop} {E : Prop}
theorem Prs.drop {B : Nat} {g off : Nat} {l : List Pr} (h : Prs w B (some ⟨g, off, none⟩) l) (k : Nat) : Prs w B (some ⟨g, off + k * 2, none⟩) (l.drop k) :=
 ⟨fun hl => by
   have hn : l ≠ [] := fun e => hl (by rw [e]; simp)
   obtain ⟨b, o', h1, h2, h3⟩ := h.cells hn
   have e : b = g ∧ o' = off := by injection h1 with h1; injection h1 with h1 h2 _; exact ⟨h1.symm, h2.symm⟩
   obtain ⟨rfl, rfl⟩ := e
   refine ⟨b, _, rfl, h2, fun i hi => ?_⟩
   have hi' : k + i < l.length := by rw [List.length_drop] at hi; omega
   have := h3 (k + i) hi'
   rw [List.getElem_drop, show o' + k * 2 + i * 2 = o' + (k + i) * 2 by omega]
   exact this⟩
end

section
open Go.RowKit Go.Sort
variable {z : Rest}

def storeCh (p : Addr) (v : Value) : Sem Unit := storeVar 94 p v
theorem storeCh_down (p : Addr) (v : Value) : storeVar 94 p v = storeCh p v := rfl
theorem storeCh_at {w : World} {g : Nat} {cs : Array Value} {t : TypeId} {old : Array Value} (hg : w.heap[g]? = some (.cells old t (0, 0))) (hi : cs.size = 5) (ho : old.size = 5) (h1 : cs.all (·.oneCell') = true) : (storeCh ⟨g, 0, none⟩ (.agg cs)).run Tryz.prog w = .ok () (w.setRow g cs) :=
 run_storeVar_row (P := Tryz.prog) w g t 94 old cs hg (by rw [info_ch, hi]) (by rw [ho, hi]) h1
theorem loadCh_at {w : World} {g : Nat} {cs : Array Value} {t : TypeId} {fr : Nat × Nat} (hg : w.heap[g]? = some (.cells cs t fr)) (hi : cs.size = 5) : (loadCh ⟨g, 0, none⟩).run Tryz.prog w = .ok (.agg cs) w :=
 run_loadVar_row (P := Tryz.prog) w g t 94 cs fr _ hg Tryz.underlying94 rfl (by rw [info_ch, hi])
abbrev chZ : Array Value := #[.int .i64 0, .int .i64 0, .string ⟨#[]⟩, .string ⟨#[]⟩, .string ⟨#[]⟩]

end
end

section
open Go.RowKit Go.Sort
variable {z : Rest}

/-- A change. -/
structure Ch where
 kind : Int
 id : Int
 key : By
 dat : By
 vol : By
instance : Inhabited Ch := ⟨⟨0, 0, [], [], []⟩⟩
abbrev Ch.cs (x : Ch) : Array Value := chC x.kind x.id x.key x.dat x.vol
/-- Changes in memory, below block B. -/
structure Chs (w : World) (B : Nat) (a : Option Addr) (l : List Ch) : Prop where
 cells : l ≠ [] → ∃ b off, a = some ⟨b, off, none⟩ ∧ b < B ∧ ∀ i (h : i < l.length), w.cell? ⟨b, off + i * 5, none⟩ = some (.int .i64 l[i].kind) ∧ w.cell? ⟨b, off + i * 5 + 1, none⟩ = some (.int .i64 l[i].id) ∧
   w.cell? ⟨b, off + i * 5 + 2, none⟩ = some (.string ⟨l[i].key.toArray⟩) ∧ w.cell? ⟨b, off + i * 5 + 3, none⟩ = some (.string ⟨l[i].dat.toArray⟩) ∧ w.cell? ⟨b, off + i * 5 + 4, none⟩ = some (.string ⟨l[i].vol.toArray⟩)
theorem loadCh_mid {w : World} {b o : Nat} {x : Ch} (h0 : w.cell? ⟨b, o, none⟩ = some (.int .i64 x.kind)) (h1 : w.cell? ⟨b, o + 1, none⟩ = some (.int .i64 x.id)) (h2 : w.cell? ⟨b, o + 2, none⟩ = some (.string ⟨x.key.toArray⟩)) (h3 : w.cell? ⟨b, o + 3, none⟩ = some (.string ⟨x.dat.toArray⟩)) (h4 : w.cell? ⟨b, o + 4, none⟩ = some (.string ⟨x.vol.toArray⟩)) :
   (loadCh ⟨b, o, none⟩).run Tryz.prog w = .ok (.agg x.cs) w :=
 run_loadVar_mid (P := Tryz.prog) w b o 94 [.int .i64 x.kind, .int .i64 x.id, .string ⟨x.key.toArray⟩, .string ⟨x.dat.toArray⟩, .string ⟨x.vol.toArray⟩] _ (fun j v hj => by
   match j with
   | 0 => simp at hj; subst hj; exact h0
   | 1 => simp at hj; subst hj; exact h1
   | 2 => simp at hj; subst hj; exact h2
   | 3 => simp at hj; subst hj; exact h3
   | 4 => simp at hj; subst hj; exact h4
   | j + 5 => simp at hj) Tryz.underlying94 rfl (by rw [info_ch]; rfl)
theorem Chs.get {w : World} {B a l} (h : Chs w B a l) {i : Nat} (hi : i < l.length) : ∃ b off, a = some ⟨b, off, none⟩ ∧ b < B ∧ ∀ W, Below B w W → (loadCh ⟨b, off + i * 5, none⟩).run Tryz.prog W = .ok (.agg l[i].cs) W := by
 obtain ⟨b, off, h1, h2, h3⟩ := h.cells (fun e => by rw [e] at hi; simp at hi)
 obtain ⟨c0, c1, c2, c3, c4⟩ := h3 i hi
 exact ⟨b, off, h1, h2, fun W hb => loadCh_mid ((hb.cell (p := ⟨b, off + i * 5, none⟩) h2).trans c0) ((hb.cell (p := ⟨b, off + i * 5 + 1, none⟩) h2).trans c1) ((hb.cell (p := ⟨b, off + i * 5 + 2, none⟩) h2).trans c2) ((hb.cell (p := ⟨b, off + i * 5 + 3, none⟩) h2).trans c3) ((hb.cell (p := ⟨b, off + i * 5 + 4, none⟩) h2).trans c4)⟩
theorem Chs.below {w w' : World} {B a l} (h : Chs w B a l) (hb : Below B w w') : Chs w' B a l :=
 ⟨fun hl => by
   obtain ⟨b, off, h1, h2, h3⟩ := h.cells hl
   exact ⟨b, off, h1, h2, fun i hi => by
     obtain ⟨c0, c1, c2, c3, c4⟩ := h3 i hi
     exact ⟨(hb.cell (p := ⟨b, off + i * 5, none⟩) h2).trans c0, (hb.cell (p := ⟨b, off + i * 5 + 1, none⟩) h2).trans c1, (hb.cell (p := ⟨b, off + i * 5 + 2, none⟩) h2).trans c2, (hb.cell (p := ⟨b, off + i * 5 + 3, none⟩) h2).trans c3, (hb.cell (p := ⟨b, off + i * 5 + 4, none⟩) h2).trans c4⟩⟩⟩
theorem Chs.mono {w : World} {B B' a l} (h : Chs w B a l) (hB : B ≤ B') : Chs w B' a l :=
 ⟨fun hl => by obtain ⟨b, off, h1, h2, h3⟩ := h.cells hl; exact ⟨b, off, h1, by omega, h3⟩⟩
/-- A change in a block of its own. -/
theorem put_ch (w : World) (x : Ch) : ∃ W, (storeCh ⟨w.heap.size, 0, none⟩ (.agg x.cs)).run Tryz.prog (w.alloc (.cells chZ 94)) = .ok () W ∧ W.heap[w.heap.size]? = some (.cells x.cs 94 (0, 0)) ∧ Below w.heap.size w W := by
 have hz := heap_alloc_new w (.cells chZ 94)
 exact ⟨_, storeCh_at hz rfl rfl (by simp [Value.oneCell']), setRow_heap _ _ _ _ _ _ hz, below_setRow (box_below0 w chZ 94) (Nat.le_refl _) _⟩
abbrev lrC (num unit : Int) (a : Option Addr) (n c : Nat) : Array Value := #[.int .i64 num, .int .i64 unit, .slice a n c]

def fewCh (x : Ch) : Bool := decide (x.key.length ≤ 50) && (decide (x.dat.length ≤ 1200) && decide (x.vol.length ≤ 20))
def fewR (m : Nat) (l : List Ch) : Bool := decide (l.length ≤ m) && l.all fewCh
theorem fewR_iff {m : Nat} {l : List Ch} : fewR m l = true ↔ l.length ≤ m ∧ ∀ x ∈ l, x.key.length ≤ 50 ∧ x.dat.length ≤ 1200 ∧ x.vol.length ≤ 20 := by
 unfold fewR fewCh; simp

section
attribute [local go_sem ↓] loadCh_down storeCh_down
set_option maxRecDepth 100000 in
set_option maxHeartbeats 4000000 in
theorem few47_any (m : Nat) (w : World) (B : Nat) (a : Option Addr) (cap : Nat) (l : List Ch) (num unit : Int) (h : Chs w B a l) (hB : B ≤ w.heap.size) (hm : m ≤ 1000) :
   Calls Tryz.prog 35 #[.agg (lrC num unit a l.length cap), .int .i64 m] w fun e w' => e = .returned (.bool (fewR m l)) ∧ Below w.heap.size w w' := by
 have hz := heap_alloc_new w (.cells (lrC num unit a l.length cap) 50)
 have HB0 := Lib.hid (box_below0 w (lrC num unit a l.length cap) 50)
 obtain ⟨W1, hW1⟩ : ∃ W1, W1 = w.alloc (.cells (lrC num unit a l.length cap) 50) := ⟨_, rfl⟩
 rw [← hW1] at hz HB0
 have HZ := Lib.hid hz
 have HW1 := Lib.hid hW1
 have HL := Lib.hid h
 have HF := Lib.hid (show fewR m l = (decide (l.length ≤ m) && l.all fewCh) from rfl)
 generalize fewR m l = q at HF ⊢
 have k0 := cell_at (i := 2) (v := .slice a l.length cap) hz rfl
 clear hz hW1 h
 by_cases hlm : l.length ≤ m
 · have HLM := Lib.hid hlm
   have hlI : ¬ (m : Int) < (l.length : Int) := by omega
   clear hlm
   go_enter Tryz.func35, Tryz.ntmps35
   go_upto_region 1 with fail
   rw [← HW1.out]
   go_wp2_with fail
   clear k0
   go_loopw [5] (fun k wr => ∃ j : Nat, j ≤ l.length ∧ k = .int .i64 j ∧ Below W1.heap.size W1 wr ∧ ∀ i (hi : i < l.length), i < j → fewCh l[i] = true) (fun k _ => l.length - (intOf k).toNat)
   case atStart => exact ⟨0, by omega, rfl, Below.refl _ _, fun i hi h => absurd h (by omega)⟩
   case round =>
     obtain ⟨j, hj, rfl, hb, hA⟩ := hrel
     have HB := Lib.hid hb
     have HBF := Lib.hid (HB0.out.trans (hb.mono HB0.out.size))
     have HA := Lib.hid hA
     have hz := (hb.block w.heap.size (lt_of_block HZ.out)).trans HZ.out
     have t2 := cell_at (i := 2) (v := .slice a l.length cap) hz rfl
     clear hb hA hz
     by_cases hlt : j < l.length
     · obtain ⟨b, off, rfl, hbb, hld⟩ := HL.out.get hlt
       have hl1 := hld _ (HBF.out.mono hB)
       have hstep : fewCh l[j] = true → ∀ i (hi : i < l.length), i < j + 1 → fewCh l[i] = true := fun h i hi h2 => by
         rcases Nat.lt_or_ge i j with h3 | h3
         · exact HA.out i hi h3
         · have e : i = j := by omega
           subst e; exact h
       have hno : fewCh l[j] = false → q = false := fun h => by
         rw [HF.out]
         have : l.all fewCh = false := by rw [List.all_eq_false]; exact ⟨l[j], List.getElem_mem hlt, by rw [h]; simp⟩
         rw [this]; simp
       have jI : (j : Int) < (l.length : Int) := by omega
       clear hld
       generalize l[j] = x at hl1 hstep hno
       obtain ⟨xk, xi, k, r, v⟩ := x
       obtain ⟨W2, hst, hW2, hb2⟩ := put_ch wr ⟨xk, xi, k, r, v⟩
       have e2 := cell_at (i := 2) (v := .string ⟨k.toArray⟩) hW2 rfl
       have e3 := cell_at (i := 3) (v := .string ⟨r.toArray⟩) hW2 rfl
       have e4 := cell_at (i := 4) (v := .string ⟨v.toArray⟩) hW2 rfl
       have HB2 := Lib.hid (HB.out.trans (hb2.mono HB.out.size))
       have HBF2 := Lib.hid (HBF.out.trans (hb2.mono HBF.out.size))
       clear hW2 hb2
       by_cases h1 : k.length ≤ 50
       · have g1 : ¬ (50 : Int) < (k.length : Int) := by omega
         by_cases h2 : r.length ≤ 1200
         · have g2 : ¬ (1200 : Int) < (r.length : Int) := by omega
           by_cases h3 : v.length ≤ 20
           · have g3 : ¬ (20 : Int) < (v.length : Int) := by omega
             have HS := Lib.hid (hstep (by unfold fewCh; simp [h1, h2, h3]))
             clear hstep hno h1 h2 h3
             go_wp2_with fail
             go_roundw
             case rel => exact ⟨j + 1, by omega, by go_num, HB2.out, HS.out⟩
             case measure => simp [intOf]; omega
           · have g3 : (20 : Int) < (v.length : Int) := by omega
             have HQ := Lib.hid (hno (by unfold fewCh; simp [h3]))
             clear hstep hno h1 h2 h3
             go_wp2_with fail
             go_ret
             exact ⟨by rw [HQ.out]; rfl, HBF2.out⟩
         · have g2 : (1200 : Int) < (r.length : Int) := by omega
           have HQ := Lib.hid (hno (by unfold fewCh; simp [h2]))
           clear hstep hno h1 h2
           go_wp2_with fail
           go_ret
           exact ⟨by rw [HQ.out]; rfl, HBF2.out⟩
       · have g1 : (50 : Int) < (k.length : Int) := by omega
         have HQ := Lib.hid (hno (by unfold fewCh; simp [h1]))
         clear hstep hno h1
         go_wp2_with fail
         go_ret
         exact ⟨by rw [HQ.out]; rfl, HBF2.out⟩
     · have jI : ¬ (j : Int) < (l.length : Int) := by omega
       have HQ := Lib.hid (show q = true by
         rw [HF.out]
         have : l.all fewCh = true := by
           rw [List.all_eq_true]
           intro p hp
           obtain ⟨i, hi, rfl⟩ := List.getElem_of_mem hp
           exact HA.out i hi (by omega)
         rw [this]; simp [HLM.out])
       go_wp2_with fail
       go_ret
       exact ⟨by rw [HQ.out]; rfl, HBF.out⟩
 · have hlI : (m : Int) < (l.length : Int) := by omega
   have HQ := Lib.hid (show q = false by rw [HF.out]; simp [hlm])
   clear hlm
   go_enter Tryz.func35, Tryz.ntmps35
   go_upto_region 1 with fail
   rw [← HW1.out]
   go_wp2_with fail
   go_ret
   exact ⟨by rw [HQ.out]; rfl, HB0.out⟩

end
end

end Go.Proofs.YtjpkdhnponcciaaGreatDoor

/-
  Walks: whether a content, a record of the log is small. Condition: they lie in memory.
  Walks: an empty content; whether a record of the log is small. Condition: it lies in memory.
  The example of the chapter, computed. No walk.
  Walk: the example of the chapter. Condition: the laid table.
  What a change gives back; a content and a change in blocks of their own. No walk.
-/
import Derived.Test.YtckpepfkfjdnhaaGreatDoorQW
import Derived.Test.YtckpepfkfjdnhaaGreatDoorQX
import Derived.Test.YtckpepfkfjdnhaaGreatDoorShelf
import Derived.Test.YtckpepfkfjdnhaaGreatDoorQJ2
namespace Go.Proofs.YtckpepfkfjdnhaaGreatDoor

section
open Go.RowKit Go.Sort
variable {z : Rest}

def fewPr (p : Pr) : Bool := decide (p.1.length ≤ 40) && decide (p.2.length ≤ 1200)
def fewC (m : Nat) (l : List Pr) : Bool := decide (l.length ≤ m) && l.all fewPr
theorem fewC_iff {m : Nat} {l : List Pr} : fewC m l = true ↔ l.length ≤ m ∧ ∀ p ∈ l, p.1.length ≤ 40 ∧ p.2.length ≤ 1200 := by
 unfold fewC fewPr; simp
set_option maxRecDepth 100000 in
set_option maxHeartbeats 4000000 in
theorem few49_any (m : Nat) (w : World) (B : Nat) (a : Option Addr) (cap : Nat) (l : List Pr) (org fmt len blk ap : Int) (h : Prs w B a l) (hB : B ≤ w.heap.size) (hm : m ≤ 1000) :
   Calls Tryz.prog 10 #[.agg (conC z org fmt len blk ap a l.length cap), .int .i64 m] w fun e w' => e = .returned (.bool (fewC m l)) ∧ Below w.heap.size w w' := by
 have hz := heap_alloc_new w (.cells (conC z org fmt len blk ap a l.length cap) 26)
 have HB0 := Lib.hid (box_below0 w (conC z org fmt len blk ap a l.length cap) 26)
 obtain ⟨W1, hW1⟩ : ∃ W1, W1 = w.alloc (.cells (conC z org fmt len blk ap a l.length cap) 26) := ⟨_, rfl⟩
 rw [← hW1] at hz HB0
 have HZ := Lib.hid hz
 have HW1 := Lib.hid hW1
 have HL := Lib.hid h
 have HF := Lib.hid (show fewC m l = (decide (l.length ≤ m) && l.all fewPr) from rfl)
 generalize fewC m l = q at HF ⊢
 have k0 := cell_at (i := 22) (v := .slice a l.length cap) hz rfl
 clear hz hW1 h
 by_cases hlm : l.length ≤ m
 · have HLM := Lib.hid hlm
   have hlI : ¬ (m : Int) < (l.length : Int) := by omega
   clear hlm
   go_enter Tryz.func10, Tryz.ntmps10
   go_upto_region 1 with fail
   rw [← HW1.out]
   go_wp2_with fail
   clear k0
   go_loopw [5] (fun k wr => ∃ j : Nat, j ≤ l.length ∧ k = .int .i64 j ∧ Below W1.heap.size W1 wr ∧ ∀ i (hi : i < l.length), i < j → fewPr l[i] = true) (fun k _ => l.length - (intOf k).toNat)
   case atStart => exact ⟨0, by omega, rfl, Below.refl _ _, fun i hi h => absurd h (by omega)⟩
   case round =>
     obtain ⟨j, hj, rfl, hb, hA⟩ := hrel
     have HB := Lib.hid hb
     have HBF := Lib.hid (HB0.out.trans (hb.mono HB0.out.size))
     have HA := Lib.hid hA
     have hz := (hb.block w.heap.size (lt_of_block HZ.out)).trans HZ.out
     have t2 := cell_at (i := 22) (v := .slice a l.length cap) hz rfl
     clear hb hA hz
     by_cases hlt : j < l.length
     · obtain ⟨b, off, rfl, hbb, c1, c2⟩ := HL.out.get hlt
       replace c1 := ((HBF.out.mono hB).cell (p := ⟨b, off + j * 2, none⟩) hbb).trans c1
       replace c2 := ((HBF.out.mono hB).cell (p := ⟨b, off + j * 2 + 1, none⟩) hbb).trans c2
       have hstep : fewPr l[j] = true → ∀ i (hi : i < l.length), i < j + 1 → fewPr l[i] = true := fun h i hi h2 => by
         rcases Nat.lt_or_ge i j with h3 | h3
         · exact HA.out i hi h3
         · have e : i = j := by omega
           subst e; exact h
       have hno : fewPr l[j] = false → q = false := fun h => by
         rw [HF.out]
         have : l.all fewPr = false := by rw [List.all_eq_false]; exact ⟨l[j], List.getElem_mem hlt, by rw [h]; simp⟩
         rw [this]; simp
       have jI : (j : Int) < (l.length : Int) := by omega
       generalize l[j] = p at c1 c2 hstep hno
       obtain ⟨k, r⟩ := p
       simp only at c1 c2
       by_cases h1 : k.length ≤ 40
       · have g1 : ¬ (40 : Int) < (k.length : Int) := by omega
         by_cases h2 : r.length ≤ 1200
         · have g2 : ¬ (1200 : Int) < (r.length : Int) := by omega
           have HS := Lib.hid (hstep (by unfold fewPr; simp [h1, h2]))
           clear hstep hno h1 h2
           go_wp2_with fail
           go_roundw
           case rel => exact ⟨j + 1, by omega, by go_num, HB.out, HS.out⟩
           case measure => simp [intOf]; omega
         · have g2 : (1200 : Int) < (r.length : Int) := by omega
           have HQ := Lib.hid (hno (by unfold fewPr; simp [h2]))
           clear hstep hno h1 h2
           go_wp2_with fail
           go_ret
           exact ⟨by rw [HQ.out]; rfl, HBF.out⟩
       · have g1 : (40 : Int) < (k.length : Int) := by omega
         have HQ := Lib.hid (hno (by unfold fewPr; simp [h1]))
         clear hstep hno h1
         go_wp2_with fail
         go_ret
         exact ⟨by rw [HQ.out]; rfl, HBF.out⟩
     · have jI : ¬ (j : Int) < (l.length : Int) := by omega
       have HQ := Lib.hid (show q = true by
         rw [HF.out]
         have : l.all fewPr = true := by
           rw [List.all_eq_true]
           intro p hp
           obtain ⟨i, hi, rfl⟩ := List.getElem_of_mem hp
           exact HA.out i hi (by omega)
         rw [this]; simp [HLM.out])
       go_wp2_with fail
       go_ret
       exact ⟨by rw [HQ.out]; rfl, HBF.out⟩
 · have hlI : (m : Int) < (l.length : Int) := by omega
   have HQ := Lib.hid (show q = false by rw [HF.out]; simp [hlm])
   clear hlm
   go_enter Tryz.func10, Tryz.ntmps10
   go_upto_region 1 with fail
   rw [← HW1.out]
   go_wp2_with fail
   go_ret
   exact ⟨by rw [HQ.out]; rfl, HB0.out⟩
end

section
open Go.RowKit Go.Sort
variable {z : Rest}

/-- A change. -/
structure Ch where
 kind : Int
 id : Int
 key : By
 dat : By
 vol : By
instance : Inhabited Ch := ⟨⟨0, 0, [], [], []⟩⟩
abbrev Ch.cs (x : Ch) : Array Value := chC x.kind x.id x.key x.dat x.vol
/-- Changes in memory, below block B. -/
structure Chs (w : World) (B : Nat) (a : Option Addr) (l : List Ch) : Prop where
 cells : l ≠ [] → ∃ b off, a = some ⟨b, off, none⟩ ∧ b < B ∧ ∀ i (h : i < l.length), w.cell? ⟨b, off + i * 5, none⟩ = some (.int .i64 l[i].kind) ∧ w.cell? ⟨b, off + i * 5 + 1, none⟩ = some (.int .i64 l[i].id) ∧
   w.cell? ⟨b, off + i * 5 + 2, none⟩ = some (.string ⟨l[i].key.toArray⟩) ∧ w.cell? ⟨b, off + i * 5 + 3, none⟩ = some (.string ⟨l[i].dat.toArray⟩) ∧ w.cell? ⟨b, off + i * 5 + 4, none⟩ = some (.string ⟨l[i].vol.toArray⟩)
theorem loadCh_mid {w : World} {b o : Nat} {x : Ch} (h0 : w.cell? ⟨b, o, none⟩ = some (.int .i64 x.kind)) (h1 : w.cell? ⟨b, o + 1, none⟩ = some (.int .i64 x.id)) (h2 : w.cell? ⟨b, o + 2, none⟩ = some (.string ⟨x.key.toArray⟩)) (h3 : w.cell? ⟨b, o + 3, none⟩ = some (.string ⟨x.dat.toArray⟩)) (h4 : w.cell? ⟨b, o + 4, none⟩ = some (.string ⟨x.vol.toArray⟩)) :
   (loadCh ⟨b, o, none⟩).run Tryz.prog w = .ok (.agg x.cs) w :=
 run_loadVar_mid (P := Tryz.prog) w b o 28 [.int .i64 x.kind, .int .i64 x.id, .string ⟨x.key.toArray⟩, .string ⟨x.dat.toArray⟩, .string ⟨x.vol.toArray⟩] _ (fun j v hj => by
   match j with
   | 0 => simp at hj; subst hj; exact h0
   | 1 => simp at hj; subst hj; exact h1
   | 2 => simp at hj; subst hj; exact h2
   | 3 => simp at hj; subst hj; exact h3
   | 4 => simp at hj; subst hj; exact h4
   | j + 5 => simp at hj) Tryz.underlying28 rfl (by rw [info_ch]; rfl)
theorem Chs.get {w : World} {B a l} (h : Chs w B a l) {i : Nat} (hi : i < l.length) : ∃ b off, a = some ⟨b, off, none⟩ ∧ b < B ∧ ∀ W, Below B w W → (loadCh ⟨b, off + i * 5, none⟩).run Tryz.prog W = .ok (.agg l[i].cs) W := by
 obtain ⟨b, off, h1, h2, h3⟩ := h.cells (fun e => by rw [e] at hi; simp at hi)
 obtain ⟨c0, c1, c2, c3, c4⟩ := h3 i hi
 exact ⟨b, off, h1, h2, fun W hb => loadCh_mid ((hb.cell (p := ⟨b, off + i * 5, none⟩) h2).trans c0) ((hb.cell (p := ⟨b, off + i * 5 + 1, none⟩) h2).trans c1) ((hb.cell (p := ⟨b, off + i * 5 + 2, none⟩) h2).trans c2) ((hb.cell (p := ⟨b, off + i * 5 + 3, none⟩) h2).trans c3) ((hb.cell (p := ⟨b, off + i * 5 + 4, none⟩) h2).trans c4)⟩
theorem Chs.below {w w' : World} {B a l} (h : Chs w B a l) (hb : Below B w w') : Chs w' B a l :=
 ⟨fun hl => by
   obtain ⟨b, off, h1, h2, h3⟩ := h.cells hl
   exact ⟨b, off, h1, h2, fun i hi => by
     obtain ⟨c0, c1, c2, c3, c4⟩ := h3 i hi
     exact ⟨(hb.cell (p := ⟨b, off + i * 5, none⟩) h2).trans c0, (hb.cell (p := ⟨b, off + i * 5 + 1, none⟩) h2).trans c1, (hb.cell (p := ⟨b, off + i * 5 + 2, none⟩) h2).trans c2, (hb.cell (p := ⟨b, off + i * 5 + 3, none⟩) h2).trans c3, (hb.cell (p := ⟨b, off + i * 5 + 4, none⟩) h2).trans c4⟩⟩⟩
theorem Chs.mono {w : World} {B B' a l} (h : Chs w B a l) (hB : B ≤ B') : Chs w B' a l :=
 ⟨fun hl => by obtain ⟨b, off, h1, h2, h3⟩ := h.cells hl; exact ⟨b, off, h1, by omega, h3⟩⟩
/-- A change in a block of its own. -/
theorem put_ch (w : World) (x : Ch) : ∃ W, (storeCh ⟨w.heap.size, 0, none⟩ (.agg x.cs)).run Tryz.prog (w.alloc (.cells chZ 28)) = .ok () W ∧ W.heap[w.heap.size]? = some (.cells x.cs 28 (0, 0)) ∧ Below w.heap.size w W := by
 have hz := heap_alloc_new w (.cells chZ 28)
 exact ⟨_, storeCh_at hz rfl rfl (by simp [Value.oneCell']), setRow_heap _ _ _ _ _ _ hz, below_setRow (box_below0 w chZ 28) (Nat.le_refl _) _⟩
abbrev lrC (num unit : Int) (a : Option Addr) (n c : Nat) : Array Value := #[.int .i64 num, .int .i64 unit, .slice a n c]

def fewCh (x : Ch) : Bool := decide (x.key.length ≤ 50) && (decide (x.dat.length ≤ 1200) && decide (x.vol.length ≤ 20))
def fewR (m : Nat) (l : List Ch) : Bool := decide (l.length ≤ m) && l.all fewCh
theorem fewR_iff {m : Nat} {l : List Ch} : fewR m l = true ↔ l.length ≤ m ∧ ∀ x ∈ l, x.key.length ≤ 50 ∧ x.dat.length ≤ 1200 ∧ x.vol.length ≤ 20 := by
 unfold fewR fewCh; simp

section
attribute [local go_sem ↓] loadCh_down storeCh_down loadDs_down storeCo_down
set_option maxRecDepth 100000 in
set_option maxHeartbeats 4000000 in
theorem few47_any (m : Nat) (w : World) (B : Nat) (a : Option Addr) (cap : Nat) (l : List Ch) (num unit : Int) (h : Chs w B a l) (hB : B ≤ w.heap.size) (hm : m ≤ 1000) :
   Calls Tryz.prog 11 #[.agg (lrC num unit a l.length cap), .int .i64 m] w fun e w' => e = .returned (.bool (fewR m l)) ∧ Below w.heap.size w w' := by
 have hz := heap_alloc_new w (.cells (lrC num unit a l.length cap) 35)
 have HB0 := Lib.hid (box_below0 w (lrC num unit a l.length cap) 35)
 obtain ⟨W1, hW1⟩ : ∃ W1, W1 = w.alloc (.cells (lrC num unit a l.length cap) 35) := ⟨_, rfl⟩
 rw [← hW1] at hz HB0
 have HZ := Lib.hid hz
 have HW1 := Lib.hid hW1
 have HL := Lib.hid h
 have HF := Lib.hid (show fewR m l = (decide (l.length ≤ m) && l.all fewCh) from rfl)
 generalize fewR m l = q at HF ⊢
 have k0 := cell_at (i := 2) (v := .slice a l.length cap) hz rfl
 clear hz hW1 h
 by_cases hlm : l.length ≤ m
 · have HLM := Lib.hid hlm
   have hlI : ¬ (m : Int) < (l.length : Int) := by omega
   clear hlm
   go_enter Tryz.func11, Tryz.ntmps11
   go_upto_region 1 with fail
   rw [← HW1.out]
   go_wp2_with fail
   clear k0
   go_loopw [5] (fun k wr => ∃ j : Nat, j ≤ l.length ∧ k = .int .i64 j ∧ Below W1.heap.size W1 wr ∧ ∀ i (hi : i < l.length), i < j → fewCh l[i] = true) (fun k _ => l.length - (intOf k).toNat)
   case atStart => exact ⟨0, by omega, rfl, Below.refl _ _, fun i hi h => absurd h (by omega)⟩
   case round =>
     obtain ⟨j, hj, rfl, hb, hA⟩ := hrel
     have HB := Lib.hid hb
     have HBF := Lib.hid (HB0.out.trans (hb.mono HB0.out.size))
     have HA := Lib.hid hA
     have hz := (hb.block w.heap.size (lt_of_block HZ.out)).trans HZ.out
     have t2 := cell_at (i := 2) (v := .slice a l.length cap) hz rfl
     clear hb hA hz
     by_cases hlt : j < l.length
     · obtain ⟨b, off, rfl, hbb, hld⟩ := HL.out.get hlt
       have hl1 := hld _ (HBF.out.mono hB)
       have hstep : fewCh l[j] = true → ∀ i (hi : i < l.length), i < j + 1 → fewCh l[i] = true := fun h i hi h2 => by
         rcases Nat.lt_or_ge i j with h3 | h3
         · exact HA.out i hi h3
         · have e : i = j := by omega
           subst e; exact h
       have hno : fewCh l[j] = false → q = false := fun h => by
         rw [HF.out]
         have : l.all fewCh = false := by rw [List.all_eq_false]; exact ⟨l[j], List.getElem_mem hlt, by rw [h]; simp⟩
         rw [this]; simp
       have jI : (j : Int) < (l.length : Int) := by omega
       clear hld
       generalize l[j] = x at hl1 hstep hno
       obtain ⟨xk, xi, k, r, v⟩ := x
       obtain ⟨W2, hst, hW2, hb2⟩ := put_ch wr ⟨xk, xi, k, r, v⟩
       have e2 := cell_at (i := 2) (v := .string ⟨k.toArray⟩) hW2 rfl
       have e3 := cell_at (i := 3) (v := .string ⟨r.toArray⟩) hW2 rfl
       have e4 := cell_at (i := 4) (v := .string ⟨v.toArray⟩) hW2 rfl
       have HB2 := Lib.hid (HB.out.trans (hb2.mono HB.out.size))
       have HBF2 := Lib.hid (HBF.out.trans (hb2.mono HBF.out.size))
       clear hW2 hb2
       by_cases h1 : k.length ≤ 50
       · have g1 : ¬ (50 : Int) < (k.length : Int) := by omega
         by_cases h2 : r.length ≤ 1200
         · have g2 : ¬ (1200 : Int) < (r.length : Int) := by omega
           by_cases h3 : v.length ≤ 20
           · have g3 : ¬ (20 : Int) < (v.length : Int) := by omega
             have HS := Lib.hid (hstep (by unfold fewCh; simp [h1, h2, h3]))
             clear hstep hno h1 h2 h3
             go_wp2_with fail
             go_roundw
             case rel => exact ⟨j + 1, by omega, by go_num, HB2.out, HS.out⟩
             case measure => simp [intOf]; omega
           · have g3 : (20 : Int) < (v.length : Int) := by omega
             have HQ := Lib.hid (hno (by unfold fewCh; simp [h3]))
             clear hstep hno h1 h2 h3
             go_wp2_with fail
             go_ret
             exact ⟨by rw [HQ.out]; rfl, HBF2.out⟩
         · have g2 : (1200 : Int) < (r.length : Int) := by omega
           have HQ := Lib.hid (hno (by unfold fewCh; simp [h2]))
           clear hstep hno h1 h2
           go_wp2_with fail
           go_ret
           exact ⟨by rw [HQ.out]; rfl, HBF2.out⟩
       · have g1 : (50 : Int) < (k.length : Int) := by omega
         have HQ := Lib.hid (hno (by unfold fewCh; simp [h1]))
         clear hstep hno h1
         go_wp2_with fail
         go_ret
         exact ⟨by rw [HQ.out]; rfl, HBF2.out⟩
     · have jI : ¬ (j : Int) < (l.length : Int) := by omega
       have HQ := Lib.hid (show q = true by
         rw [HF.out]
         have : l.all fewCh = true := by
           rw [List.all_eq_true]
           intro p hp
           obtain ⟨i, hi, rfl⟩ := List.getElem_of_mem hp
           exact HA.out i hi (by omega)
         rw [this]; simp [HLM.out])
       go_wp2_with fail
       go_ret
       exact ⟨by rw [HQ.out]; rfl, HBF.out⟩
 · have hlI : (m : Int) < (l.length : Int) := by omega
   have HQ := Lib.hid (show q = false by rw [HF.out]; simp [hlm])
   clear hlm
   go_enter Tryz.func11, Tryz.ntmps11
   go_upto_region 1 with fail
   rw [← HW1.out]
   go_wp2_with fail
   go_ret
   exact ⟨by rw [HQ.out]; rfl, HB0.out⟩

theorem ret_co {fn : Func} {R : Ending → World → Prop} {a : Act} {w : World} {p : Tmp} {rb : Nat} {cs : Array Value} (hf : fn.results = #[.cell p 26]) (hp : a.tmps.getD p undef = .pointer (some ⟨rb, 0, none⟩)) (hd : a.defers = [])
   (hi : cs.size = 23) (hg : w.heap[rb]? = some (.cells cs 26 (0, 0))) (hR : R (.returned (.agg cs)) w) : bodyPost Tryz.prog fn R .ret a w :=
 bodyPost_ret (results_cell_row hf _ _ rb 26 _ (0, 0) _ hp hg Tryz.underlying26 rfl (by rw [info_con49, hi])) hd hR
set_option maxRecDepth 100000 in
set_option maxHeartbeats 4000000 in
theorem fempty_any (org fmt len blk ap : Int) (w : World) : Calls Tryz.prog 16 #[.agg (dsv z org fmt len blk), .int .i64 ap] w fun e w' => e = .returned (.agg (conC z org fmt len blk ap none 0 0)) ∧ Below w.heap.size w w' := by
 obtain ⟨W1, hW1⟩ : ∃ W1, W1 = (w.alloc (.cells (dsv z org fmt len blk) 23)).alloc (.cells conZ 26) := ⟨_, rfl⟩
 have hd := heap_alloc_new w (.cells (dsv z org fmt len blk) 23)
 have hb := box_below0 w (dsv z org fmt len blk) 23
 have hz := heap_alloc_new (w.alloc (.cells (dsv z org fmt len blk) 23)) (.cells conZ 26)
 rw [show (w.alloc (.cells (dsv z org fmt len blk) 23)).heap.size = w.heap.size + 1 by simp] at hz
 have hd2 := (halloc (w.alloc (.cells (dsv z org fmt len blk) 23)) (.cells conZ 26) (by simp)).trans hd
 have hb2 := hb.trans ((box_below0 (w.alloc (.cells (dsv z org fmt len blk) 23)) conZ 26).mono hb.size)
 rw [← hW1] at hz hd2 hb2
 have ld := loadDs_at hd2 rfl
 have hst := storeCo_at (cs := conC z org fmt len blk ap none 0 0) hz rfl rfl one_con
 have hb3 := Lib.hid (below_setRow hb2 (Nat.le_succ _) (conC z org fmt len blk ap none 0 0))
 have hz3 := setRow_heap _ _ _ (conC z org fmt len blk ap none 0 0) _ _ hz
 have HW := Lib.hid hW1
 clear hd hb hz hd2 hb2 hW1
 go_enter Tryz.func16, Tryz.ntmps16
 go_upto_region 1 with fail
 rw [← HW.out]
 go_wp2_with fail
 exact ret_co rfl rfl rfl rfl hz3 ⟨rfl, hb3.out⟩
end
end

section
open Go.RowKit Go.Sort

def zA : Rest := ⟨200, 0, 0, 128, 0, 0, 0, 0, 0, 0, false, 0, [], [], 0, 0, false⟩
def lenA (j : Nat) : Nat := if j = 0 then 60 else if j = 1 then 50 else 10
def addrA (j : Nat) : Nat := if j = 0 then 128 else if j = 1 then 188 else 256
def recA (j : Nat) : By := Lib.repeatL [120] (lenA j)
def lA (j : Nat) : List Pr := (List.range j).map fun i => (slotB (addrA i), recA i)
theorem lA_len (j : Nat) : (lA j).length = j := by unfold lA; simp
theorem lA_get (j : Nat) (h : j < (lA 3).length) : (lA 3)[j] = (slotB (addrA j), recA j) := by
 have h3 := h
 rw [lA_len] at h3
 match j, h, h3 with
 | 0, _, _ => rfl
 | 1, _, _ => rfl
 | 2, _, _ => rfl
theorem recA_len (j : Nat) : (recA j).length ≤ 60 := by
 unfold recA lenA; split
 · decide +kernel
 · split <;> decide +kernel
theorem lA_few (j : Nat) : ∀ p ∈ lA j, p.1.length ≤ 100000 ∧ p.2.length ≤ 100000 := by
 intro p hp
 unfold lA at hp
 obtain ⟨i, _, rfl⟩ := List.mem_map.1 hp
 have := recA_len i
 have h2 := slot_len (addrA i)
 exact ⟨by simp only; omega, by simp only; omega⟩
theorem doA (j : Nat) (hj : j < 3) : doV zA 1 0 100 0 ((4 + j : Nat) : Int) (lA j) ((4 + (j + 1) : Nat) : Int) 2 200 [] (recA j) [] = (0, ((4 + (j + 1) : Nat) : Int), lA (j + 1)) := by
 match j, hj with
 | 0, _ => decide +kernel
 | 1, _ => decide +kernel
 | 2, _ => decide +kernel
theorem valA : valP zA 1 0 100 0 7 (lA 3) = true := by decide +kernel
end

section
open Go.RowKit Go.Sort

structure AwSt (w W : World) (g j : Nat) : Prop where
 hg : w.heap.size ≤ g
 con : ∃ a c, W.heap[g]? = some (.cells (conC zA 1 0 100 0 ((4 + j : Nat) : Int) a (lA j).length c) 26 (0, 0)) ∧ (lA j).length ≤ c ∧ c ≤ maxLen ∧ Prs W W.heap.size a (lA j)
 cod : Codes W
 bel : Below w.heap.size w W
theorem AwSt.below {w W W' : World} {g j : Nat} (h : AwSt w W g j) (hb : Below W.heap.size W W') : AwSt w W' g j := by
 obtain ⟨a, c, h1, h2, h3, h4⟩ := h.con
 exact ⟨h.hg, ⟨a, c, heap_below hb (lt_of_block h1) h1, h2, h3, (h4.below hb).mono hb.size⟩, h.cod.below hb h.cod.pos, h.bel.trans (hb.mono h.bel.size)⟩
theorem len_at (j : Nat) (h : j < 3) {w : World} {s : Nat} {t : TypeId} {fr : Nat × Nat} (hs : w.heap[s]? = some (.cells #[.int .i64 60, .int .i64 50, .int .i64 10] t fr)) : w.cell? ⟨s, j, none⟩ = some (.int .i64 (lenA j)) := by
 match j, h with
 | 0, _ => exact cell_at (i := 0) hs rfl
 | 1, _ => exact cell_at (i := 1) hs rfl
 | 2, _ => exact cell_at (i := 2) hs rfl
theorem addr_at (j : Nat) (h : j < 3) {w : World} {s : Nat} {t : TypeId} {fr : Nat × Nat} (hs : w.heap[s]? = some (.cells #[.int .i64 128, .int .i64 188, .int .i64 256] t fr)) : w.cell? ⟨s, j, none⟩ = some (.int .i64 (addrA j)) := by
 match j, h with
 | 0, _ => exact cell_at (i := 0) hs rfl
 | 1, _ => exact cell_at (i := 1) hs rfl
 | 2, _ => exact cell_at (i := 2) hs rfl

/-- The content in block g, written anew. -/
theorem aw_put {w w4 : World} {g j : Nat} {old : Array Value} {a : Option Addr} {c : Nat} (hg : w4.heap[g]? = some (.cells old 26 (0, 0))) (ho : old.size = 23) (hwg : w.heap.size ≤ g) (hb : Below w.heap.size w w4) (hc : Codes w)
   (hP : Prs w4 w4.heap.size a (lA j)) (hf : ∀ p, a = some p → p.block ≠ g) (hle : (lA j).length ≤ c) (hmx : c ≤ maxLen) :
   ∃ W4, (storeCo ⟨g, 0, none⟩ (.agg (conC zA 1 0 100 0 ((4 + j : Nat) : Int) a (lA j).length c))).run Tryz.prog w4 = .ok () W4 ∧ AwSt w W4 g j ∧ ∀ k, k ≠ g → k < w4.heap.size → W4.heap[k]? = w4.heap[k]? := by
 have hb4 := below_setRow hb hwg (conC zA 1 0 100 0 ((4 + j : Nat) : Int) a (lA j).length c)
 refine ⟨_, storeCo_at hg rfl ho one_con, ⟨hwg, ⟨a, c, setRow_heap _ _ _ _ _ _ hg, hle, hmx, ?_⟩, hc.below hb4 hc.pos, hb4⟩, fun k hk hl => heap_setRow_other' _ _ hl hk⟩
 have := prs_setRow hP hf (conC zA 1 0 100 0 ((4 + j : Nat) : Int) a (lA j).length c)
 rwa [setRow_size]

section
attribute [local go_sem ↓] loadCo_down storeCo_down
set_option maxRecDepth 100000 in
set_option maxHeartbeats 4000000 in
theorem awake_any (w : World) (hc0 : Codes w) : Calls Tryz.prog 12 #[] w fun e w' => e = .returned (.bool true) ∧ Below w.heap.size w w' := by
 have HC := Lib.hid hc0
 clear hc0
 go_enter Tryz.func12, Tryz.ntmps12
 go_wp2_with fail
 refine (fempty_any (z := zA) 1 0 100 0 4 w).mono ?_
 rintro e w1 ⟨rfl, hb1⟩
 obtain ⟨W1, hst1, hW1, hbW1⟩ : ∃ W1, (storeCo ⟨w1.heap.size, 0, none⟩ (.agg (conC zA 1 0 100 0 4 none 0 0))).run Tryz.prog (w1.alloc (.cells conZ 26)) = .ok () W1 ∧ W1.heap[w1.heap.size]? = some (.cells (conC zA 1 0 100 0 4 none 0 0) 26 (0, 0)) ∧ Below w1.heap.size w1 W1 :=
   ⟨_, storeCo_at (heap_alloc_new w1 (.cells conZ 26)) rfl rfl one_con, setRow_heap _ _ _ _ _ _ (heap_alloc_new w1 (.cells conZ 26)), below_setRow (box_below0 w1 conZ 26) (Nat.le_refl _) _⟩
 have HA := Lib.hid (show AwSt w W1 w1.heap.size 0 from ⟨hb1.size, ⟨none, 0, hW1, Nat.le_refl _, Nat.zero_le _, prs_nil _ _ _⟩, HC.out.below (hb1.trans (hbW1.mono hb1.size)) HC.out.pos, hb1.trans (hbW1.mono hb1.size)⟩)
 have HG := Lib.hid (lt_of_block hW1)
 clear hb1 hW1 hbW1
 go_wp2_with fail
 go_loopw [2, 11] (fun e k wr => ∃ j : Nat, j ≤ 3 ∧ e = .int .i64 0 ∧ k = .int .i64 j ∧ AwSt w wr w1.heap.size j ∧ wr.heap[W1.heap.size]? = some (.cells #[.int .i64 60, .int .i64 50, .int .i64 10] 3 (0, 0))) (fun _ k _ => 3 - (intOf k).toNat)
 case atStart => exact ⟨0, by omega, rfl, rfl, HA.out.below (box_below _ _ _), heap_alloc_new _ _⟩
 case round =>
   clear hst1
   obtain ⟨j, hj, rfl, rfl, ha, hs⟩ := hrel
   by_cases hlt : j < 3
   · have jI : (j : Int) < 3 := by omega
     have ln := len_at j hlt hs
     obtain ⟨a, c, hcon, hle, hmx, hP⟩ := ha.con
     have HL := Lib.hid hs
     have HAA := Lib.hid ha
     have HCON := Lib.hid hcon
     have HP := Lib.hid hP
     have HGJ := Lib.hid (lt_of_block hcon)
     have ln1 : wr.drew.cell? ⟨W1.heap.size, j, none⟩ = some (.int .i64 (lenA j)) := ln
     have lc : (loadCo ⟨w1.heap.size, 0, none⟩).run Tryz.prog wr.drew = .ok (.agg (conC zA 1 0 100 0 ((4 + j : Nat) : Int) a (lA j).length c)) wr.drew := loadCo_at (w := wr.drew) hcon rfl
     have hw1 : IntKind.i64.wrap (5 + (j : Int)) = ((4 + (j + 1) : Nat) : Int) := by rw [IntKind.wrap_i64]; omega
     have HREP := Lib.hid (show ∀ W, Calls Tryz.prog 29 #[.string ⟨#[120]⟩, .int .i64 (lenA j)] W fun e w' => e = .returned (.string ⟨(recA j).toArray⟩) ∧ Below W.heap.size W w' from
       fun W => Tryz.strings_Repeat ⟨#[120]⟩ (lenA j) W (by unfold lenA; split <;> (try split) <;> decide) (by unfold lenA; split <;> (try split) <;> decide))
     have HNE := Lib.hid (show w1.heap.size ≠ W1.heap.size by have := HG.out; omega)
     have HDO := Lib.hid (doA j hlt)
     have HLT := Lib.hid hlt
     have HPUT := Lib.hid (fun (w4 : World) (old : Array Value) (a : Option Addr) (c : Nat) hg ho hb hP hf hle hmx => aw_put (w := w) (w4 := w4) (g := w1.heap.size) (j := j + 1) (old := old) (a := a) (c := c) hg ho HAA.out.hg hb HC.out hP hf hle hmx)
     have HFEW := Lib.hid (lA_few j)
     have HLL := Lib.hid (show (lA j).length ≤ 4000 by rw [lA_len]; omega)
     have HRL := Lib.hid (show (recA j).length ≤ 100000 by have := recA_len j; omega)
     clear hs ha hcon hP hlt HA HG
     generalize lenA j = m at ln1 ln HREP
     generalize recA j = R0 at HREP HDO HRL
     generalize lA (j + 1) = L1 at HDO HPUT
     generalize lA j = L0 at HDO HFEW HLL lc HCON HP hle
     generalize ((4 + (j + 1) : Nat) : Int) = n1 at HDO HPUT hw1
     generalize ((4 + j : Nat) : Int) = n0 at HDO lc HCON
     go_wp2_with fail
     go_region_law (first
         | (go_simp
            refine (HREP.out _).mono ?_
            rintro e w3 ⟨rfl, hb3⟩
            have HB3 := Lib.hid (show Below wr.heap.size wr w3 from below_drew1.trans hb3)
            have lc3 : (loadCo ⟨w1.heap.size, 0, none⟩).run Tryz.prog w3 = .ok (.agg (conC zA 1 0 100 0 n0 a L0.length c)) w3 := loadCo_at (heap_below HB3.out HGJ.out HCON.out) rfl
            clear hb3)
         | (go_simp
            refine (fdo_any (z := zA) w3 wr.heap.size a c L0 1 0 100 0 n0 n1 2 200 [] R0 [] (HP.out.below HB3.out) HB3.out.size HLL.out (by decide) (by decide) (HAA.out.cod.below HB3.out HAA.out.cod.pos) (by decide) HRL.out (by decide) HFEW.out rfl).mono ?_
            rw [HDO.out]
            rintro e w4 ⟨⟨cs, rfl, h1, _⟩, hb4⟩
            obtain ⟨a4, c4, rfl, hle4, hmx4, hP4, hf4⟩ := h1 rfl
            have hcon4 := heap_below hb4 (lt_of_block (heap_below HB3.out HGJ.out HCON.out)) (heap_below HB3.out HGJ.out HCON.out)
            have lc4 : (loadCo ⟨w1.heap.size, 0, none⟩).run Tryz.prog w4 = .ok (.agg (conC zA 1 0 100 0 n0 a L0.length c)) w4 := loadCo_at hcon4 rfl
            obtain ⟨W4, hst4, hA4, ho4⟩ := HPUT.out w4 _ a4 c4 hcon4 rfl (HAA.out.bel.trans ((HB3.out.trans (hb4.mono HB3.out.size)).mono HAA.out.bel.size)) hP4 (fun p hp => by
              rcases hf4 p hp with h | h
              · rw [h] at hp; cases hp
              · have := HGJ.out; have := HB3.out.size; omega) hle4 hmx4
            have HA4 := Lib.hid hA4
            have HL4 := Lib.hid ((ho4 _ HNE.out.symm (Nat.lt_of_lt_of_le (lt_of_block HL.out) (Nat.le_trans HB3.out.size hb4.size))).trans (heap_below (HB3.out.trans (hb4.mono HB3.out.size)) (lt_of_block HL.out) HL.out))
            clear hb4 h1 hle4 hmx4 hP4 hf4 hcon4 hA4 ho4))
     all_goals
       go_wp2_with fail
       go_roundw
       case rel => exact ⟨j + 1, by have := HLT.out; omega, rfl, by go_num, HA4.out, HL4.out⟩
       case measure => have := HLT.out; simp [intOf]; omega
   · have : j = 3 := by omega
     subst this
     obtain ⟨a, c, hcon, hle, hmx, hP⟩ := ha.con
     have hv : valP zA 1 0 100 0 ((4 + 3 : Nat) : Int) (lA 3) = true := valA
     have hcon7 : wr.heap[w1.heap.size]? = some (.cells (conC zA 1 0 100 0 7 a (lA 3).length c) 26 (0, 0)) := hcon
     have HG3 := Lib.hid lA_get
     have HFEW := Lib.hid (lA_few 3)
     have hl3 : ((lA 3).length : Int) = 3 := by rw [lA_len]; rfl
     have HLL := Lib.hid (show (lA 3).length = 3 from lA_len 3)
     have HV := Lib.hid valA
     have HAA := Lib.hid ha
     have HCON := Lib.hid hcon7
     have HP := Lib.hid hP
     have lc := loadCo_at hcon7 rfl
     clear hs ha hcon hcon7 hP hlt hv HA
     generalize lA 3 = L at *
     go_wp2_with fail
     refine (fvalid_any (z := zA) wr wr.heap.size a c L 1 0 100 0 7 HP.out (Nat.le_refl _) (by rw [HLL.out]; decide) (by decide) (by decide) HAA.out.cod HFEW.out).mono ?_
     rw [HV.out]
     rintro e w2 ⟨rfl, hb2⟩
     have hcon2 := heap_below hb2 (lt_of_block HCON.out) HCON.out
     have c21 := cell_at (i := 21) (v := .int .i64 7) hcon2 rfl
     have c22 := cell_at (i := 22) (v := .slice a L.length c) hcon2 rfl
     have HCON2 := Lib.hid hcon2
     have HP2 := Lib.hid ((HP.out.below hb2).mono hb2.size)
     have HB2 := Lib.hid (HAA.out.bel.trans (hb2.mono HAA.out.bel.size))
     clear hb2 lc hcon2
     go_wp2_with fail
     clear c21 c22
     obtain ⟨w3, hw3⟩ : ∃ w3, w3 = w2.alloc (.cells #[.int .i64 128, .int .i64 188, .int .i64 256] 3) := ⟨_, rfl⟩
     have hs3 : w3.heap[w2.heap.size]? = some (.cells #[.int .i64 128, .int .i64 188, .int .i64 256] 3 (0, 0)) := by rw [hw3]; exact heap_alloc_new _ _
     have hb3 : Below w2.heap.size w2 w3 := by rw [hw3]; exact box_below0 _ _ _
     rw [← hw3]
     have HS3 := Lib.hid hs3
     have HCON3 := Lib.hid (heap_below hb3 (lt_of_block HCON2.out) HCON2.out)
     have HP3 := Lib.hid (HP2.out.below hb3)
     have HZ3 := Lib.hid hb3.size
     have HB3 := Lib.hid (HB2.out.trans (hb3.mono HB2.out.size))
     have HW3 := Lib.hid hw3
     clear hs3 hb3 hw3 HAA HCON HP
     go_loopw [50] (fun k wr => ∃ j : Nat, j ≤ 3 ∧ k = .int .i64 j ∧ Below w3.heap.size w3 wr) (fun k _ => 3 - (intOf k).toNat)
     case atStart => exact ⟨0, by omega, rfl, Below.refl _ _⟩
     case round =>
       obtain ⟨j, hj, rfl, hbq⟩ := hrel
       have HBQ := Lib.hid hbq
       by_cases hlt : j < 3
       · have jI : (j : Int) < 3 := by omega
         have jL : (j : Int) < (L.length : Int) := by omega
         have hjL : j < L.length := by rw [HLL.out]; exact hlt
         obtain ⟨b, off, rfl, hbb, hk, hk9⟩ := HP3.out.get hjL
         rw [HG3.out j hjL] at hk
         have hk3 := (HBQ.out.cell (p := ⟨b, off + j * 2, none⟩) (Nat.lt_of_lt_of_le hbb HZ3.out)).trans hk
         have ln := addr_at j hlt (heap_below HBQ.out (lt_of_block HS3.out) HS3.out)
         have HCQ := Lib.hid (heap_below HBQ.out (lt_of_block HCON3.out) HCON3.out)
         have HSL := Lib.hid (show Calls Tryz.prog 30 #[.int .i64 (addrA j)] wr.drew fun e w' => e = .returned (.string ⟨(slotB (addrA j)).toArray⟩) ∧ Below wr.drew.heap.size wr.drew w' from rslot_any (addrA j) wr.drew (by unfold addrA; split <;> (try split) <;> decide))
         have HKQ := Lib.hid (show b < wr.heap.size from Nat.lt_of_lt_of_le hbb (Nat.le_trans HZ3.out HBQ.out.size))
         have HK := Lib.hid hk3
         have ck : wr.drew.cell? ⟨b, off + j * 2, none⟩ = some (.string ⟨(slotB (addrA j)).toArray⟩) := hk3
         have c22 : wr.drew.cell? ⟨w1.heap.size, 22, none⟩ = some (.slice (some ⟨b, off, none⟩) L.length c) := cell_at (w := wr.drew) (i := 22) HCQ.out rfl
         clear hk hk3 hbq hk9 hjL
         generalize hsl : slotB (addrA j) = sl at ck HK HSL
         clear hsl
         generalize addrA j = ad at ln HSL
         go_wp2_with fail
         go_region_held3 (fun w' => w'.cell? ⟨b, off + j * 2, none⟩ = some (.string ⟨sl.toArray⟩) ∧ w'.cell? ⟨w1.heap.size, 22, none⟩ = some (.slice (some ⟨b, off, none⟩) L.length c)) (first | (with_reducible exact ⟨ck5, c225⟩) | exact ⟨ck, c22⟩ | fail)
           ((first
             | (go_at_call 30
                refine HSL.out.mono ?_
                rintro e w5 ⟨rfl, hb5⟩
                have HB5 := Lib.hid (show Below wr.heap.size wr w5 from below_drew1.trans hb5)
                have ck5 := (HB5.out.cell (p := ⟨b, off + j * 2, none⟩) HKQ.out).trans HK.out
                have c225 := cell_at (i := 22) (v := .slice (some ⟨b, off, none⟩) L.length c) (heap_below HB5.out (lt_of_block HCQ.out) HCQ.out) rfl
                clear hb5)
             | fail))
         all_goals
           go_wp2_with fail
           go_roundw
           case rel => exact ⟨j + 1, by omega, by go_num, HBQ.out.trans (HB5.out.mono HBQ.out.size)⟩
           case measure => simp [intOf]; omega
       · have : j = 3 := by omega
         subst this
         have HBF := Lib.hid (HB3.out.trans (HBQ.out.mono HB3.out.size))
         go_wp2_with fail
         go_ret
         exact ⟨rfl, HBF.out⟩
end
end

section
open Go.RowKit Go.Sort
variable {z : Rest}

abbrev zZ : Rest := ⟨0, 0, 0, 0, 0, 0, 0, 0, 0, 0, false, 0, [], [], 0, 0, false⟩
/-- What a change gives back, as a content. -/
theorem do_out (z : Rest) (org fmt len blk : Int) (r : Int × Int × List Pr) (hr : r.2.2.length ≤ 1024) : ∃ (z1 : Rest) (o1 f1 n1 b1 p1 : Int) (m : List Pr), m.length ≤ 1024 ∧ (r.1 = 0 → z1 = z ∧ o1 = org ∧ f1 = fmt ∧ n1 = len ∧ b1 = blk ∧ p1 = r.2.1 ∧ m = r.2.2) ∧ ∀ a0 w e w', DoRet z org fmt len blk a0 w r e w' →
   ∃ a c, e = .returned (.tuple #[.agg (conC z1 o1 f1 n1 b1 p1 a m.length c), .int .i64 r.1]) ∧ Prs w' w'.heap.size a m ∧ m.length ≤ c ∧ c ≤ maxLen ∧ Below w.heap.size w w' := by
 by_cases h0 : r.1 = 0
 · refine ⟨z, org, fmt, len, blk, r.2.1, r.2.2, hr, fun _ => ⟨rfl, rfl, rfl, rfl, rfl, rfl, rfl⟩, ?_⟩
   rintro a0 w e w' ⟨⟨cs, rfl, h1, _⟩, hb⟩
   obtain ⟨a, c, rfl, h2, h3, h4, _⟩ := h1 h0
   exact ⟨a, c, rfl, h4, h2, h3, hb⟩
 · refine ⟨zZ, 0, 0, 0, 0, 0, [], Nat.zero_le _, fun h => absurd h h0, ?_⟩
   rintro a0 w e w' ⟨⟨cs, rfl, _, h2⟩, hb⟩
   rw [h2 h0]
   exact ⟨none, 0, rfl, prs_nil _ _ _, Nat.le_refl _, Nat.zero_le _, hb⟩
/-- A content and a numbered change in blocks. -/
structure LwSt (w W : World) (z : Rest) (org fmt len blk ap : Int) (a : Option Addr) (m c : Nat) (n kind id : Int) (key rec vol : By) : Prop where
 con : W.heap[w.heap.size]? = some (.cells (conC z org fmt len blk ap a m c) 26 (0, 0))
 num : W.heap[w.heap.size + 1]? = some (.cells (numC n kind id key rec vol) 30 (0, 0))
 bel : Below w.heap.size w W
theorem LwSt.below {w W W' : World} {org fmt len blk ap : Int} {a : Option Addr} {m c : Nat} {n kind id : Int} {key rec vol : By} (h : LwSt w W z org fmt len blk ap a m c n kind id key rec vol) (hb : Below W.heap.size W W') : LwSt w W' z org fmt len blk ap a m c n kind id key rec vol :=
 ⟨heap_below hb (lt_of_block h.con) h.con, heap_below hb (lt_of_block h.num) h.num, h.bel.trans (hb.mono h.bel.size)⟩
/-- A content in a block of its own. -/
theorem put_co (w : World) (z : Rest) (org fmt len blk ap : Int) (a : Option Addr) (m c : Nat) : ∃ W, (storeCo ⟨w.heap.size, 0, none⟩ (.agg (conC z org fmt len blk ap a m c))).run Tryz.prog (w.alloc (.cells conZ 26)) = .ok () W ∧ W.heap[w.heap.size]? = some (.cells (conC z org fmt len blk ap a m c) 26 (0, 0)) ∧ Below w.heap.size w W := by
 have hz := heap_alloc_new w (.cells conZ 26)
 exact ⟨_, storeCo_at hz rfl rfl one_con, setRow_heap _ _ _ _ _ _ hz, below_setRow (box_below0 w conZ 26) (Nat.le_refl _) _⟩
end

end Go.Proofs.YtckpepfkfjdnhaaGreatDoor

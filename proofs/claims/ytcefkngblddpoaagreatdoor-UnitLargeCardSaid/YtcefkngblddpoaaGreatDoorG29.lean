/-
  Locks in memory: loaded and stored whole, rows of them, what is cleared; lists that are only read. No condition.
  Walks: locks that are valid, that conflict; the closures that ask for locks. Condition: what a closure has captured lies in memory.
  Walks: slices.IndexFunc, slices.ContainsFunc and slices.DeleteFunc over locks, for each of the manager's closures. Condition: the locks lie in memory, the closure answers.
-/
import Derived.Test.YtcefkngblddpoaaGreatDoorG27
import Derived.Test.YtcefkngblddpoaaGreatDoorG17
import Derived.Test.YtcefkngblddpoaaGreatDoorG28
import Derived.Lib.SliceRun
namespace Go.Proofs.YtcefkngblddpoaaGreatDoor

section
set_option linter.unusedSimpArgs false
set_option linter.unusedVariables false
open Go.RowKit Go.Sort
def loadLk (p : Addr) : Sem Value := loadVar 60 p
theorem loadLk_down (p : Addr) : loadVar 60 p = loadLk p := rfl
def storeLk (p : Addr) (v : Value) : Sem Unit := storeVar 60 p v
theorem storeLk_down (p : Addr) (v : Value) : storeVar 60 p v = storeLk p v := rfl
theorem loadLk_at {w : World} {g : Nat} {cs : Array Value} {t : TypeId} {fr : Nat × Nat} (hg : w.heap[g]? = some (.cells cs t fr)) (hi : cs.size = 6) : (loadLk ⟨g, 0, none⟩).run Tryz.prog w = .ok (.agg cs) w :=
 run_loadVar_row (P := Tryz.prog) w g t 60 cs fr _ hg Tryz.underlying60 rfl (by rw [info_lk, hi])
theorem storeLk_at {w : World} {g : Nat} {cs : Array Value} {t : TypeId} {old : Array Value} (hg : w.heap[g]? = some (.cells old t (0, 0))) (hi : cs.size = 6) (ho : old.size = 6) (h1 : cs.all (·.oneCell') = true) : (storeLk ⟨g, 0, none⟩ (.agg cs)).run Tryz.prog w = .ok () (w.setRow g cs) :=
 run_storeVar_row (P := Tryz.prog) w g t 60 old cs hg (by rw [info_lk, hi]) (by rw [ho, hi]) h1
abbrev lkZ : Array Value := #[.int .i64 0, .int .i64 0, .string ⟨#[]⟩, .string ⟨#[]⟩, .bool false, .bool false]
theorem put_lk (w : World) (x : Lk) : ∃ W, (storeLk ⟨w.heap.size, 0, none⟩ (.agg x.cs)).run Tryz.prog (w.alloc (.cells lkZ 60)) = .ok () W ∧ W.heap[w.heap.size]? = some (.cells x.cs 60 (0, 0)) ∧ Below w.heap.size w W := by
 have hz := heap_alloc_new w (.cells lkZ 60)
 exact ⟨_, storeLk_at hz rfl rfl (by simp [Value.oneCell']), setRow_heap _ _ _ _ _ _ hz, below_setRow (box_below0 w lkZ 60) (Nat.le_refl _) _⟩
/-- A lock's cells lie at a place. -/
def LkAt (w : World) (b o : Nat) (x : Lk) : Prop := ∀ (j : Nat) (v : Value), x.cs.toList[j]? = some v → w.cell? ⟨b, o + j, none⟩ = some v
theorem LkAt.load {w : World} {b o : Nat} {x : Lk} (h : LkAt w b o x) : (loadLk ⟨b, o, none⟩).run Tryz.prog w = .ok (.agg x.cs) w :=
 run_loadVar_mid (P := Tryz.prog) w b o 60 x.cs.toList _ (fun j v hj => h j v hj) Tryz.underlying60 rfl (by rw [info_lk]; rfl)
theorem loadRg_mid {w : World} {b o : Nat} {r : Rg} (h : ∀ (j : Nat) (v : Value), r.cs.toList[j]? = some v → w.cell? ⟨b, o + j, none⟩ = some v) : (loadRg ⟨b, o, none⟩).run Tryz.prog w = .ok (.agg r.cs) w :=
 run_loadVar_mid (P := Tryz.prog) w b o 58 r.cs.toList _ (fun j v hj => h j v hj) Tryz.underlying58 rfl (by rw [info_rg]; rfl)
/-- The range of a lock in a block of its own. -/
theorem loadRg_lk {w : World} {g : Nat} {x : Lk} {t : TypeId} {fr : Nat × Nat} (hg : w.heap[g]? = some (.cells x.cs t fr)) : (loadRg ⟨g, 2, none⟩).run Tryz.prog w = .ok (.agg x.rg.cs) w :=
 loadRg_mid fun j v hj => by
  match j with
  | 0 => simp at hj; subst hj; exact cell_at (i := 2) hg rfl
  | 1 => simp at hj; subst hj; exact cell_at (i := 3) hg rfl
  | 2 => simp at hj; subst hj; exact cell_at (i := 4) hg rfl
  | j + 3 => simp at hj
abbrev lkC (x : Lk) : Array Value := x.cs
theorem encLk : Enc Tryz.prog lkC 55 60 6 := by
 obtain ⟨i, h1, h2, h3, h4⟩ := info_parts (show (Tryz.prog.info? 60).map (fun i => (i.zero, i.size, i.bytes)) = some (some (.agg lkZ), 6, 64) by kernel_rfl)
 exact ⟨Tryz.underlying55, ⟨i, _, h1, h2, h3, by omega, rfl, by omega⟩, fun _ => rfl, fun x u hu => by simp at hu; rcases hu with rfl | rfl | rfl | rfl | rfl | rfl <;> rfl⟩
abbrev LkRow (w : World) (base : Nat) (v : Value) (l : List Lk) : Prop := RowE lkC 60 6 w base v l
/-- Locks that are only read. -/
structure Lks (w : World) (a : Option Addr) (l : List Lk) : Prop where
 cells : l ≠ [] → ∃ b off, a = some ⟨b, off, none⟩ ∧ b < w.heap.size ∧ ∀ i (h : i < l.length), LkAt w b (off + i * 6) l[i]
theorem Lks.below {w w' : World} {a l} (h : Lks w a l) (hb : Below w.heap.size w w') : Lks w' a l :=
 ⟨fun hl => by
   obtain ⟨b, off, h1, h2, h3⟩ := h.cells hl
   exact ⟨b, off, h1, Nat.lt_of_lt_of_le h2 hb.size, fun i hi j v hj => (hb.cell (p := ⟨b, off + i * 6 + j, none⟩) h2).trans (h3 i hi j v hj)⟩⟩
theorem Lks.get {w : World} {a l} (h : Lks w a l) {i : Nat} (hi : i < l.length) : ∃ b off, a = some ⟨b, off, none⟩ ∧ b < w.heap.size ∧ LkAt w b (off + i * 6) l[i] := by
 obtain ⟨b, off, h1, h2, h3⟩ := h.cells (fun e => by rw [e] at hi; simp at hi)
 exact ⟨b, off, h1, h2, h3 i hi⟩
theorem Lks.take {w : World} {a l} (h : Lks w a l) (n : Nat) : Lks w a (l.take n) :=
 ⟨fun hl => by
   obtain ⟨b, off, h1, h2, h3⟩ := h.cells (fun e => hl (by rw [e]; simp))
   exact ⟨b, off, h1, h2, fun i hi => by
    have : i < l.length := by rw [List.length_take] at hi; omega
    rw [List.getElem_take]; exact h3 i this⟩⟩
/-- A row of locks can be read. -/
theorem lks_row {w : World} {base : Nat} {a : Option Addr} {n c : Nat} {l : List Lk} (h : LkRow w base (.slice a n c) l) : Lks w a l ∧ n = l.length ∧ l.length ≤ c ∧ c ≤ maxLen := by
 obtain ⟨a', c', hv, h1, h2, h3⟩ := RowE.cells encLk h
 injection hv with e1 e2 e3
 subst e1 e2 e3
 refine ⟨⟨fun hl => ?_⟩, rfl, h1, h2⟩
 obtain ⟨g, ha, _, _, hg, hc⟩ := h3 hl
 exact ⟨g, 0, ha, hg, fun i hi j v hj => by
  rw [Nat.zero_add]
  exact hc i hi j v (by rw [← Array.getElem?_toList]; exact hj)⟩
theorem flatLk_cons (x : Lk) (l : List Lk) : flatE lkC (x :: l) = .int .i64 x.unit :: .int .i64 x.id :: .string ⟨x.rg.lo.toArray⟩ :: .string ⟨x.rg.hi.toArray⟩ :: .bool x.rg.en :: .bool x.ex :: flatE lkC l := rfl
theorem flatLk_set : ∀ (l : List Lk) (i : Nat) (x : Lk), ((((((flatE lkC l).set (i * 6) (.int .i64 x.unit)).set (i * 6 + 1) (.int .i64 x.id)).set (i * 6 + 2) (.string ⟨x.rg.lo.toArray⟩)).set (i * 6 + 3) (.string ⟨x.rg.hi.toArray⟩)).set (i * 6 + 4) (.bool x.rg.en)).set (i * 6 + 5) (.bool x.ex) = flatE lkC (l.set i x)
 | [], i, x => by simp [flatE]
 | y :: l, 0, x => by simp [flatLk_cons]
 | y :: l, i + 1, x => by
   rw [show (i + 1) * 6 + 5 = i * 6 + 5 + 1 + 1 + 1 + 1 + 1 + 1 by omega, show (i + 1) * 6 + 4 = i * 6 + 4 + 1 + 1 + 1 + 1 + 1 + 1 by omega, show (i + 1) * 6 + 3 = i * 6 + 3 + 1 + 1 + 1 + 1 + 1 + 1 by omega, show (i + 1) * 6 + 2 = i * 6 + 2 + 1 + 1 + 1 + 1 + 1 + 1 by omega, show (i + 1) * 6 + 1 = i * 6 + 1 + 1 + 1 + 1 + 1 + 1 + 1 by omega, show (i + 1) * 6 = i * 6 + 1 + 1 + 1 + 1 + 1 + 1 by omega]
   simp only [flatLk_cons, List.set_cons_succ, flatLk_set l i x]
theorem there_lk {w : World} {base g cap n : Nat} {xs : List Value} (h : w.ownsRow base 60 6 (.slice (some ⟨g, 0, none⟩) n cap) n xs) (j : Nat) (hj : j < n * 6) : (w.cell? ⟨g, j, none⟩).isSome = true ∧ w.frozen? ⟨g, j, none⟩ = false := by
 refine ⟨?_, World.ownsRow.frozenAt h j⟩
 rw [World.ownsRow.cellAt h j hj, List.getElem?_eq_getElem (by rw [h.1]; exact hj)]
 rfl
theorem only_setCells (g : Nat) : ∀ (vs : List Value) (o : Nat) (w : World), Only [g] w (w.setCells g o vs)
 | [], _, w => Only.refl _ _
 | v :: vs, o, w => (((Only.refl [g] w).setCell (p := ⟨g, o, none⟩) (Or.inl (by simp)) v)).trans (only_setCells g vs (o + 1) _)
theorem LkRow.set {w : World} {base g cap : Nat} {l : List Lk} (h : LkRow w base (.slice (some ⟨g, 0, none⟩) l.length cap) l) (i : Nat) (hi : i < l.length) (x : Lk) :
 ∃ W, (storeLk ⟨g, i * 6, none⟩ (.agg (lkC x))).run Tryz.prog w = .ok () W ∧ LkRow W base (.slice (some ⟨g, 0, none⟩) l.length cap) (l.set i x) ∧ Only [g] w W := by
 refine ⟨_, run_storeVar_mid (P := Tryz.prog) w g (i * 6) 60 (lkC x) (fun k hk => by
  have hk : k < 6 := hk
  exact there_lk h (i * 6 + k) (by omega)) (by rw [info_lk]; rfl) (by simp [Value.oneCell']), ?_, only_setCells g _ _ _⟩
 have h1 := (World.ownsRow.stored h (i * 6) (.int .i64 x.unit)).1
 have h2 := (World.ownsRow.stored h1 (i * 6 + 1) (.int .i64 x.id)).1
 have h3 := (World.ownsRow.stored h2 (i * 6 + 2) (.string ⟨x.rg.lo.toArray⟩)).1
 have h4 := (World.ownsRow.stored h3 (i * 6 + 3) (.string ⟨x.rg.hi.toArray⟩)).1
 have h5 := (World.ownsRow.stored h4 (i * 6 + 4) (.bool x.rg.en)).1
 have h6 := (World.ownsRow.stored h5 (i * 6 + 5) (.bool x.ex)).1
 rw [flatLk_set] at h6
 show World.ownsRow _ _ _ _ _ (l.set i x).length _
 rw [List.length_set]
 exact h6
section
variable {P : Program} {w : World} {ops : Array Oper} {rest : List Oper} {o : Oper} {a : Act} {Q : Exit → Act → World → Prop}
end
end

section
set_option maxRecDepth 100000
set_option maxHeartbeats 4000000
set_option linter.unusedSimpArgs false
set_option linter.unusedVariables false
open Go.RowKit Go.Sort
theorem neI (a b : Int) : (a != b) = decide (a ≠ b) := by by_cases h : a = b <;> simp [h]
theorem eqI0 (a b : Int) : (a == b) = decide (a = b) := by by_cases h : a = b <;> simp [h]
theorem lnum_any (n : Int) (w : World) : Calls Tryz.prog 95 #[.int .i64 n] w fun e w' => e = .returned (.bool (numOk n)) ∧ w' = w := by
 have HF := Lib.hid (show numOk n = (decide (1 ≤ n) && decide (n ≤ 1099511627776)) from rfl)
 generalize numOk n = q at HF ⊢
 by_cases h1 : 1 ≤ n
 · by_cases h2 : n ≤ 1099511627776
   · have HQ := Lib.hid (show q = true by rw [HF.out]; simp [h1, h2])
     go_enter Tryz.func95, Tryz.ntmps95
     go_wp2_with fail
     go_ret
     exact ⟨by rw [HQ.out]; rfl, rfl⟩
   · have HQ := Lib.hid (show q = false by rw [HF.out]; simp [h2])
     go_enter Tryz.func95, Tryz.ntmps95
     go_wp2_with fail
     go_ret
     exact ⟨by rw [HQ.out]; rfl, rfl⟩
 · have HQ := Lib.hid (show q = false by rw [HF.out]; simp [h1])
   go_enter Tryz.func95, Tryz.ntmps95
   go_wp2_with fail
   go_ret
   exact ⟨by rw [HQ.out]; rfl, rfl⟩
theorem two_lk (w : World) (x y : Array Value) : ∃ W, W = (w.alloc (.cells x 60)).alloc (.cells y 60) ∧ W.heap[w.heap.size]? = some (.cells x 60 (0, 0)) ∧ W.heap[w.heap.size + 1]? = some (.cells y 60 (0, 0)) ∧ Below w.heap.size w W := by
 have hz := heap_alloc_new w (.cells x 60)
 have hb := box_below0 w x 60
 have hk := heap_alloc_new (w.alloc (.cells x 60)) (.cells y 60)
 have hsz : (w.alloc (.cells x 60)).heap.size = w.heap.size + 1 := by simp
 rw [hsz] at hk
 exact ⟨_, rfl, (halloc (w.alloc (.cells x 60)) (.cells y 60) (by simp)).trans hz, hk, hb.trans ((box_below0 (w.alloc (.cells x 60)) y 60).mono hb.size)⟩
section
attribute [local go_sem ↓] loadRg_down storeRg_down loadLk_down storeLk_down
theorem lvalid_any (x : Lk) (w : World) : Calls Tryz.prog 44 #[.agg x.cs] w fun e w' => e = .returned (.bool (lkOk x)) ∧ Below w.heap.size w w' := by
 have hz := heap_alloc_new w (.cells x.cs 60)
 have hb := box_below0 w x.cs 60
 have ld := loadRg_lk hz
 have HE := Lib.hid (empR_any x.rg (w.alloc (.cells x.cs 60)))
 have HB := Lib.hid hb
 have HF := Lib.hid (show lkOk x = (numOk x.unit && (numOk x.id && (decide (x.rg.lo.length ≤ 32) && (decide (x.rg.hi.length ≤ 32) && !emR x.rg)))) from rfl)
 generalize lkOk x = q at HF ⊢
 have c0 := cell_at (i := 0) (v := .int .i64 x.unit) hz rfl
 have c1 := cell_at (i := 1) (v := .int .i64 x.id) hz rfl
 have c2 := cell_at (i := 2) (v := .string ⟨x.rg.lo.toArray⟩) hz rfl
 have c3 := cell_at (i := 3) (v := .string ⟨x.rg.hi.toArray⟩) hz rfl
 have HU := Lib.hid (lnum_any x.unit)
 have HI := Lib.hid (lnum_any x.id)
 obtain ⟨unit, id, ⟨lo, hi, en⟩, ex⟩ := x
 simp only at HU HI HF HE c0 c1 c2 c3 ld
 clear hz hb
 generalize emR ⟨lo, hi, en⟩ = y at HE HF
 generalize numOk unit = n1 at HU HF
 generalize numOk id = n2 at HI HF
 cases n1 with
 | false =>
   have HQ := Lib.hid (show q = false by rw [HF.out]; rfl)
   go_enter Tryz.func44, Tryz.ntmps44
   go_wp2_with fail
   refine (HU.out _).mono ?_
   rintro e _ ⟨rfl, rfl⟩
   go_wp2_with fail
   go_ret
   exact ⟨by rw [HQ.out]; rfl, HB.out⟩
 | true =>
   cases n2 with
   | false =>
     have HQ := Lib.hid (show q = false by rw [HF.out]; rfl)
     go_enter Tryz.func44, Tryz.ntmps44
     go_wp2_with fail
     refine (HU.out _).mono ?_
     rintro e _ ⟨rfl, rfl⟩
     go_wp2_with fail
     refine (HI.out _).mono ?_
     rintro e _ ⟨rfl, rfl⟩
     go_wp2_with fail
     go_ret
     exact ⟨by rw [HQ.out]; rfl, HB.out⟩
   | true =>
     by_cases h1 : lo.length ≤ 32
     · have g1 : (lo.length : Int) ≤ 32 := by omega
       by_cases h2 : hi.length ≤ 32
       · have g2 : (hi.length : Int) ≤ 32 := by omega
         have HQ := Lib.hid (show q = !y by rw [HF.out]; simp [h1, h2])
         clear h1 h2
         go_enter Tryz.func44, Tryz.ntmps44
         go_wp2_with fail
         refine (HU.out _).mono ?_
         rintro e _ ⟨rfl, rfl⟩
         go_wp2_with fail
         refine (HI.out _).mono ?_
         rintro e _ ⟨rfl, rfl⟩
         go_wp2_with fail
         refine HE.out.mono ?_
         rintro e w2 ⟨rfl, hb2⟩
         have HB2 := Lib.hid (HB.out.trans (hb2.mono HB.out.size))
         clear hb2
         go_wp2_with fail
         go_ret
         exact ⟨by rw [HQ.out]; rfl, HB2.out⟩
       · have g2 : ¬ (hi.length : Int) ≤ 32 := by omega
         have HQ := Lib.hid (show q = false by rw [HF.out]; simp [h2])
         clear h1 h2
         go_enter Tryz.func44, Tryz.ntmps44
         go_wp2_with fail
         refine (HU.out _).mono ?_
         rintro e _ ⟨rfl, rfl⟩
         go_wp2_with fail
         refine (HI.out _).mono ?_
         rintro e _ ⟨rfl, rfl⟩
         go_wp2_with fail
         go_ret
         exact ⟨by rw [HQ.out]; rfl, HB.out⟩
     · have g1 : ¬ (lo.length : Int) ≤ 32 := by omega
       have HQ := Lib.hid (show q = false by rw [HF.out]; simp [h1])
       clear h1
       go_enter Tryz.func44, Tryz.ntmps44
       go_wp2_with fail
       refine (HU.out _).mono ?_
       rintro e _ ⟨rfl, rfl⟩
       go_wp2_with fail
       refine (HI.out _).mono ?_
       rintro e _ ⟨rfl, rfl⟩
       go_wp2_with fail
       go_ret
       exact ⟨by rw [HQ.out]; rfl, HB.out⟩
theorem conflict_any (a b : Lk) (w : World) : Calls Tryz.prog 99 #[.agg a.cs, .agg b.cs] w fun e w' => e = .returned (.bool (conB a b)) ∧ Below w.heap.size w w' := by
 obtain ⟨W1, hW1, hz1, hz2, hb⟩ := two_lk w a.cs b.cs
 have la := loadRg_lk hz1
 have lb := loadRg_lk hz2
 have HO := Lib.hid (overlap_any a.rg b.rg W1)
 have HB := Lib.hid hb
 have HW1 := Lib.hid hW1
 have a0 := cell_at (i := 0) (v := .int .i64 a.unit) hz1 rfl
 have a1 := cell_at (i := 1) (v := .int .i64 a.id) hz1 rfl
 have a5 := cell_at (i := 5) (v := .bool a.ex) hz1 rfl
 have b0 := cell_at (i := 0) (v := .int .i64 b.unit) hz2 rfl
 have b1 := cell_at (i := 1) (v := .int .i64 b.id) hz2 rfl
 have b5 := cell_at (i := 5) (v := .bool b.ex) hz2 rfl
 have HF := Lib.hid (show conB a b = ((a.unit != b.unit) && ((a.id == b.id) && ((a.ex || b.ex) && overR a.rg b.rg))) by rw [neI, eqI0]; rfl)
 generalize conB a b = q at HF ⊢
 obtain ⟨aunit, aid, arg, aex⟩ := a
 obtain ⟨bunit, bid, brg, bex⟩ := b
 simp only at la lb HO a0 a1 a5 b0 b1 b5 HF
 generalize overR arg brg = y at HO HF
 generalize arg.cs = ac at la HO
 generalize brg.cs = bc at lb HO
 clear hz1 hz2 hb hW1
 cases hu : (aunit != bunit) with
 | false =>
   have HQ := Lib.hid (show q = false by rw [HF.out, hu]; rfl)
   go_enter Tryz.func99, Tryz.ntmps99
   go_upto_region 1 with fail
   rw [← HW1.out]
   go_wp2_with fail
   go_ret
   exact ⟨by rw [HQ.out]; rfl, HB.out⟩
 | true =>
   cases hi : (aid == bid) with
   | false =>
     have HQ := Lib.hid (show q = false by rw [HF.out, hi]; simp)
     go_enter Tryz.func99, Tryz.ntmps99
     go_upto_region 1 with fail
     rw [← HW1.out]
     go_wp2_with fail
     go_ret
     exact ⟨by rw [HQ.out]; rfl, HB.out⟩
   | true =>
     rw [hu, hi] at HF
     cases aex <;> cases bex
     · have HQ := Lib.hid (show q = false by rw [HF.out]; rfl)
       go_enter Tryz.func99, Tryz.ntmps99
       go_upto_region 1 with fail
       rw [← HW1.out]
       go_wp2_with fail
       go_ret
       exact ⟨by rw [HQ.out]; rfl, HB.out⟩
     all_goals
      have HQ := Lib.hid (show q = y by rw [HF.out]; rfl)
      go_enter Tryz.func99, Tryz.ntmps99
      go_upto_region 1 with fail
      rw [← HW1.out]
      go_wp2_with fail
      refine HO.out.mono ?_
      rintro e w2 ⟨rfl, hb2⟩
      have HB2 := Lib.hid (HB.out.trans (hb2.mono HB.out.size))
      clear hb2
      go_wp2_with fail
      go_ret
      exact ⟨by rw [HQ.out]; rfl, HB2.out⟩
theorem conf1_any (y : Lk) (g : Nat) (w : World) (hg : w.heap[g]? = some (.cells y.cs 60 (0, 0))) (x : Lk) : Calls Tryz.prog 98 #[.agg x.cs, .pointer (some ⟨g, 0, none⟩)] w fun e w' => e = .returned (.bool (conB x y)) ∧ Below w.heap.size w w' := by
 have hb := box_below0 w x.cs 60
 have hz := heap_alloc_new w (.cells x.cs 60)
 have l1 := loadLk_at hz rfl
 have l2 := loadLk_at (heap_below hb (lt_of_block hg) hg) rfl
 have HC := Lib.hid (conflict_any x y (w.alloc (.cells x.cs 60)))
 have HB := Lib.hid hb
 generalize x.cs = xc at *
 generalize y.cs = yc at *
 generalize conB x y = q at HC ⊢
 clear hb hz hg
 go_enter Tryz.func98, Tryz.ntmps98
 go_wp2_with fail
 refine HC.out.mono ?_
 rintro e w2 ⟨rfl, hb2⟩
 have HB2 := Lib.hid (HB.out.trans (hb2.mono HB.out.size))
 clear hb2
 go_wp2_with fail
 go_ret
 exact ⟨rfl, HB2.out⟩
theorem wait1_any (u : Int) (g : Nat) (w : World) (hg : w.cell? ⟨g, 0, none⟩ = some (.int .i64 u)) (x : Lk) : Calls Tryz.prog 288 #[.agg x.cs, .pointer (some ⟨g, 0, none⟩)] w fun e w' => e = .returned (.bool (decide (x.unit = u))) ∧ Below w.heap.size w w' := by
 have hb := box_below0 w x.cs 60
 have hz := heap_alloc_new w (.cells x.cs 60)
 have c0 := cell_at (i := 0) (v := .int .i64 x.unit) hz rfl
 have c1 := (hb.cell (p := ⟨g, 0, none⟩) (block_lt_of_cell hg)).trans hg
 have HB := Lib.hid hb
 have HE := Lib.hid (show decide (x.unit = u) = (x.unit == u) from rfl)
 clear hb hz hg
 go_enter Tryz.func288, Tryz.ntmps288
 go_wp2_with fail
 go_ret
 exact ⟨by rw [HE.out]; rfl, HB.out⟩
/-- A held lock covers another one. -/
def cov1B (h x : Lk) : Bool := decide (h.unit = x.unit) && (decide (h.id = x.id) && ((h.ex || !x.ex) && covR h.rg x.rg))
theorem cov1_any (b : Lk) (g : Nat) (w : World) (hg : w.heap[g]? = some (.cells b.cs 60 (0, 0))) (a : Lk) : Calls Tryz.prog 289 #[.agg a.cs, .pointer (some ⟨g, 0, none⟩)] w fun e w' => e = .returned (.bool (cov1B a b)) ∧ Below w.heap.size w w' := by
 have hb := box_below0 w a.cs 60
 have hz1 := heap_alloc_new w (.cells a.cs 60)
 have hz2 := heap_below hb (lt_of_block hg) hg
 have la := loadRg_lk hz1
 have lb := loadRg_lk hz2
 have HO := Lib.hid (covers_any a.rg b.rg (w.alloc (.cells a.cs 60)))
 have HB := Lib.hid hb
 have a0 := cell_at (i := 0) (v := .int .i64 a.unit) hz1 rfl
 have a1 := cell_at (i := 1) (v := .int .i64 a.id) hz1 rfl
 have a5 := cell_at (i := 5) (v := .bool a.ex) hz1 rfl
 have b0 := cell_at (i := 0) (v := .int .i64 b.unit) hz2 rfl
 have b1 := cell_at (i := 1) (v := .int .i64 b.id) hz2 rfl
 have b5 := cell_at (i := 5) (v := .bool b.ex) hz2 rfl
 have HF := Lib.hid (show cov1B a b = ((a.unit == b.unit) && ((a.id == b.id) && ((a.ex || !b.ex) && covR a.rg b.rg))) by rw [eqI0, eqI0]; rfl)
 generalize cov1B a b = q at HF ⊢
 obtain ⟨aunit, aid, arg, aex⟩ := a
 obtain ⟨bunit, bid, brg, bex⟩ := b
 simp only at la lb HO a0 a1 a5 b0 b1 b5 HF
 generalize covR arg brg = y at HO HF
 clear hz1 hz2 hb hg
 cases hu : (aunit == bunit) with
 | false =>
   have HQ := Lib.hid (show q = false by rw [HF.out, hu]; rfl)
   go_enter Tryz.func289, Tryz.ntmps289
   go_wp2_with fail
   go_ret
   exact ⟨by rw [HQ.out]; rfl, HB.out⟩
 | true =>
   cases hi : (aid == bid) with
   | false =>
     have HQ := Lib.hid (show q = false by rw [HF.out, hi]; simp)
     go_enter Tryz.func289, Tryz.ntmps289
     go_wp2_with fail
     go_ret
     exact ⟨by rw [HQ.out]; rfl, HB.out⟩
   | true =>
     rw [hu, hi] at HF
     cases aex <;> cases bex
     · have HQ := Lib.hid (show q = y by rw [HF.out]; rfl)
       go_enter Tryz.func289, Tryz.ntmps289
       go_wp2_with fail
       refine HO.out.mono ?_
       rintro e w2 ⟨rfl, hb2⟩
       have HB2 := Lib.hid (HB.out.trans (hb2.mono HB.out.size))
       clear hb2
       go_wp2_with fail
       go_ret
       exact ⟨by rw [HQ.out]; rfl, HB2.out⟩
     · have HQ := Lib.hid (show q = false by rw [HF.out]; rfl)
       go_enter Tryz.func289, Tryz.ntmps289
       go_wp2_with fail
       go_ret
       exact ⟨by rw [HQ.out]; rfl, HB.out⟩
     all_goals
      have HQ := Lib.hid (show q = y by rw [HF.out]; rfl)
      go_enter Tryz.func289, Tryz.ntmps289
      go_wp2_with fail
      refine HO.out.mono ?_
      rintro e w2 ⟨rfl, hb2⟩
      have HB2 := Lib.hid (HB.out.trans (hb2.mono HB.out.size))
      clear hb2
      go_wp2_with fail
      go_ret
      exact ⟨by rw [HQ.out]; rfl, HB2.out⟩
end
end

section
set_option maxRecDepth 100000
set_option maxHeartbeats 4000000
set_option linter.unusedSimpArgs false
set_option linter.unusedVariables false
open Go.RowKit Go.Sort
def idxV : Option Nat → Value
 | some n => .int .i64 n
 | none => .int .i64 (-1)
theorem idxL_any {α : Type} (acc : α → Bool) (O : List α) (n : Nat) : (idxL acc O n).isSome = O.any acc := by
 induction O generalizing n with
 | nil => rfl
 | cons x O ih =>
   rw [idxL, List.any_cons]
   cases h : acc x with
   | true => simp
   | false => simp [ih]
theorem LkRow.at {w : World} {base : Nat} {v : Value} {l : List Lk} (h : LkRow w base v l) : ∃ a c, v = .slice a l.length c ∧ l.length ≤ c ∧ ∀ i (hi : i < l.length), ∃ g, a = some ⟨g, 0, none⟩ ∧ g < w.heap.size ∧ base ≤ g ∧ LkAt w g (i * 6) l[i] := by
 obtain ⟨a, c, hv, h1, _, h3⟩ := RowE.cells encLk h
 refine ⟨a, c, hv, h1, fun i hi => ?_⟩
 obtain ⟨g, ha, _, hb, hg, hc⟩ := h3 (fun e => by rw [e] at hi; simp at hi)
 exact ⟨g, ha, hg, hb, fun j v hj => hc i hi j v (by rw [← Array.getElem?_toList]; exact hj)⟩
theorem LkAt.keep {w w' : World} {b o : Nat} {x : Lk} (h : LkAt w b o x) (hb : Below w.heap.size w w') (hB : b < w.heap.size) : LkAt w' b o x :=
 fun j v hj => (hb.cell (p := ⟨b, o + j, none⟩) hB).trans (h j v hj)
section
attribute [local go_sem ↓] loadLk_down storeLk_down
theorem idxF_w (w : World) (a : Option Addr) (c : Nat) (O : List Lk) (sx : Nat) (acc : Lk → Bool) (ho : Lks w a O) (hl : O.length ≤ 1000000) (hA : ∀ W, Below w.heap.size w W → ∀ x : Lk, Calls Tryz.prog 98 #[.agg (lkC x), .pointer (some ⟨sx, 0, none⟩)] W fun e w' => e = .returned (.bool (acc x)) ∧ Below W.heap.size W w') :
 Calls Tryz.prog 119 #[.slice a O.length c, .func (.func 98) #[] #[.pointer (some ⟨sx, 0, none⟩)]] w fun e w' => e = .returned (idxV (idxL acc O 0)) ∧ Below w.heap.size w w' := by
 have HT0 := Lib.hid (show idxL acc O 0 = idxL acc (O.drop 0) 0 from rfl)
 generalize hT : idxL acc O 0 = T at HT0 ⊢
 have HO := Lib.hid ho
 have HA := Lib.hid hA
 clear ho hA hT
 go_enter Tryz.func119, Tryz.ntmps119
 go_wp2_with fail
 go_loopw [8] (fun k wr => ∃ j : Nat, j ≤ O.length ∧ k = .int .i64 j ∧ T = idxL acc (O.drop j) j ∧ Below w.heap.size w wr) (fun k _ => O.length - (intOf k).toNat)
 case atStart => exact ⟨0, by omega, rfl, HT0.out, Below.refl _ _⟩
 case round =>
  clear HT0
  obtain ⟨j, hj, rfl, hT, hbr⟩ := hrel
  have HBR := Lib.hid hbr
  by_cases hlt : j < O.length
  · have hltI : (j : Int) < (O.length : Int) := by omega
    obtain ⟨g, off, rfl, hg, hat⟩ := (HO.out.below hbr).get hlt
    have dl := hat.load
    have hC := HA.out wr hbr O[j]
    rw [List.drop_eq_getElem_cons hlt, idxL] at hT
    clear hbr hat
    generalize O[j] = x at dl hC hT
    have HC := Lib.hid hC
    have HT := Lib.hid hT
    clear hT hC
    generalize acc x = q at HC HT
    go_wp2_with fail
    refine HC.out.mono ?_
    rintro e w2 ⟨rfl, hb2⟩
    have HB2 := Lib.hid (HBR.out.trans (hb2.mono HBR.out.size))
    clear hb2 dl
    cases q with
    | true =>
      have HQ := Lib.hid (show T = some j by rw [HT.out, if_pos rfl])
      go_wp2_with fail
      go_ret
      exact ⟨by rw [HQ.out]; rfl, HB2.out⟩
    | false =>
      have HQ := Lib.hid (show T = idxL acc (O.drop (j + 1)) (j + 1) by rw [HT.out, if_neg (by simp)])
      go_wp2_with fail
      go_roundw
      case rel => exact ⟨j + 1, by omega, by go_num, HQ.out, HB2.out⟩
      case measure => (simp [intOf]) <;> omega
  · have hltI : ¬ (j : Int) < (O.length : Int) := by omega
    have HQ := Lib.hid (show T = none by rw [hT, List.drop_eq_nil_of_le (by omega)]; rfl)
    clear hT hbr
    go_wp2_with fail
    go_ret
    rw [HQ.out]
    exact ⟨rfl, HBR.out⟩
theorem conF_w (w : World) (a : Option Addr) (c : Nat) (O : List Lk) (sx : Nat) (acc : Lk → Bool) (ho : Lks w a O) (hl : O.length ≤ 1000000) (hA : ∀ W, Below w.heap.size w W → ∀ x : Lk, Calls Tryz.prog 98 #[.agg (lkC x), .pointer (some ⟨sx, 0, none⟩)] W fun e w' => e = .returned (.bool (acc x)) ∧ Below W.heap.size W w') :
 Calls Tryz.prog 97 #[.slice a O.length c, .func (.func 98) #[] #[.pointer (some ⟨sx, 0, none⟩)]] w fun e w' => e = .returned (.bool (O.any acc)) ∧ Below w.heap.size w w' := by
 have HI := Lib.hid (idxF_w w a c O sx acc ho hl hA)
 rw [← idxL_any acc O 0]
 clear ho hA
 generalize idxL acc O 0 = T at HI ⊢
 cases T with
 | none =>
   simp only [idxV] at HI
   go_enter Tryz.func97, Tryz.ntmps97
   go_wp2_with fail
   refine HI.out.mono ?_
   rintro e w1 ⟨rfl, hb1⟩
   have HB1 := Lib.hid hb1
   clear hb1
   go_wp2_with fail
   go_ret
   exact ⟨rfl, HB1.out⟩
 | some n =>
   simp only [idxV] at HI
   have h0 : (0 : Int) ≤ (n : Int) := by omega
   go_enter Tryz.func97, Tryz.ntmps97
   go_wp2_with fail
   refine HI.out.mono ?_
   rintro e w1 ⟨rfl, hb1⟩
   have HB1 := Lib.hid hb1
   clear hb1
   go_wp2_with fail
   go_ret
   exact ⟨rfl, HB1.out⟩
theorem idxC_w (w : World) (a : Option Addr) (c : Nat) (O : List Lk) (sx : Nat) (acc : Lk → Bool) (ho : Lks w a O) (hl : O.length ≤ 1000000) (hA : ∀ W, Below w.heap.size w W → ∀ x : Lk, Calls Tryz.prog 289 #[.agg (lkC x), .pointer (some ⟨sx, 0, none⟩)] W fun e w' => e = .returned (.bool (acc x)) ∧ Below W.heap.size W w') :
 Calls Tryz.prog 119 #[.slice a O.length c, .func (.func 289) #[] #[.pointer (some ⟨sx, 0, none⟩)]] w fun e w' => e = .returned (idxV (idxL acc O 0)) ∧ Below w.heap.size w w' := by
 have HT0 := Lib.hid (show idxL acc O 0 = idxL acc (O.drop 0) 0 from rfl)
 generalize hT : idxL acc O 0 = T at HT0 ⊢
 have HO := Lib.hid ho
 have HA := Lib.hid hA
 clear ho hA hT
 go_enter Tryz.func119, Tryz.ntmps119
 go_wp2_with fail
 go_loopw [8] (fun k wr => ∃ j : Nat, j ≤ O.length ∧ k = .int .i64 j ∧ T = idxL acc (O.drop j) j ∧ Below w.heap.size w wr) (fun k _ => O.length - (intOf k).toNat)
 case atStart => exact ⟨0, by omega, rfl, HT0.out, Below.refl _ _⟩
 case round =>
  clear HT0
  obtain ⟨j, hj, rfl, hT, hbr⟩ := hrel
  have HBR := Lib.hid hbr
  by_cases hlt : j < O.length
  · have hltI : (j : Int) < (O.length : Int) := by omega
    obtain ⟨g, off, rfl, hg, hat⟩ := (HO.out.below hbr).get hlt
    have dl := hat.load
    have hC := HA.out wr hbr O[j]
    rw [List.drop_eq_getElem_cons hlt, idxL] at hT
    clear hbr hat
    generalize O[j] = x at dl hC hT
    have HC := Lib.hid hC
    have HT := Lib.hid hT
    clear hT hC
    generalize acc x = q at HC HT
    go_wp2_with fail
    refine HC.out.mono ?_
    rintro e w2 ⟨rfl, hb2⟩
    have HB2 := Lib.hid (HBR.out.trans (hb2.mono HBR.out.size))
    clear hb2 dl
    cases q with
    | true =>
      have HQ := Lib.hid (show T = some j by rw [HT.out, if_pos rfl])
      go_wp2_with fail
      go_ret
      exact ⟨by rw [HQ.out]; rfl, HB2.out⟩
    | false =>
      have HQ := Lib.hid (show T = idxL acc (O.drop (j + 1)) (j + 1) by rw [HT.out, if_neg (by simp)])
      go_wp2_with fail
      go_roundw
      case rel => exact ⟨j + 1, by omega, by go_num, HQ.out, HB2.out⟩
      case measure => (simp [intOf]) <;> omega
  · have hltI : ¬ (j : Int) < (O.length : Int) := by omega
    have HQ := Lib.hid (show T = none by rw [hT, List.drop_eq_nil_of_le (by omega)]; rfl)
    clear hT hbr
    go_wp2_with fail
    go_ret
    rw [HQ.out]
    exact ⟨rfl, HBR.out⟩
theorem conC_w (w : World) (a : Option Addr) (c : Nat) (O : List Lk) (sx : Nat) (acc : Lk → Bool) (ho : Lks w a O) (hl : O.length ≤ 1000000) (hA : ∀ W, Below w.heap.size w W → ∀ x : Lk, Calls Tryz.prog 289 #[.agg (lkC x), .pointer (some ⟨sx, 0, none⟩)] W fun e w' => e = .returned (.bool (acc x)) ∧ Below W.heap.size W w') :
 Calls Tryz.prog 97 #[.slice a O.length c, .func (.func 289) #[] #[.pointer (some ⟨sx, 0, none⟩)]] w fun e w' => e = .returned (.bool (O.any acc)) ∧ Below w.heap.size w w' := by
 have HI := Lib.hid (idxC_w w a c O sx acc ho hl hA)
 rw [← idxL_any acc O 0]
 clear ho hA
 generalize idxL acc O 0 = T at HI ⊢
 cases T with
 | none =>
   simp only [idxV] at HI
   go_enter Tryz.func97, Tryz.ntmps97
   go_wp2_with fail
   refine HI.out.mono ?_
   rintro e w1 ⟨rfl, hb1⟩
   have HB1 := Lib.hid hb1
   clear hb1
   go_wp2_with fail
   go_ret
   exact ⟨rfl, HB1.out⟩
 | some n =>
   simp only [idxV] at HI
   have h0 : (0 : Int) ≤ (n : Int) := by omega
   go_enter Tryz.func97, Tryz.ntmps97
   go_wp2_with fail
   refine HI.out.mono ?_
   rintro e w1 ⟨rfl, hb1⟩
   have HB1 := Lib.hid hb1
   clear hb1
   go_wp2_with fail
   go_ret
   exact ⟨rfl, HB1.out⟩
theorem idxW_w (w : World) (a : Option Addr) (c : Nat) (O : List Lk) (sx : Nat) (acc : Lk → Bool) (ho : Lks w a O) (hl : O.length ≤ 1000000) (hA : ∀ W, Below w.heap.size w W → ∀ x : Lk, Calls Tryz.prog 288 #[.agg (lkC x), .pointer (some ⟨sx, 0, none⟩)] W fun e w' => e = .returned (.bool (acc x)) ∧ Below W.heap.size W w') :
 Calls Tryz.prog 119 #[.slice a O.length c, .func (.func 288) #[] #[.pointer (some ⟨sx, 0, none⟩)]] w fun e w' => e = .returned (idxV (idxL acc O 0)) ∧ Below w.heap.size w w' := by
 have HT0 := Lib.hid (show idxL acc O 0 = idxL acc (O.drop 0) 0 from rfl)
 generalize hT : idxL acc O 0 = T at HT0 ⊢
 have HO := Lib.hid ho
 have HA := Lib.hid hA
 clear ho hA hT
 go_enter Tryz.func119, Tryz.ntmps119
 go_wp2_with fail
 go_loopw [8] (fun k wr => ∃ j : Nat, j ≤ O.length ∧ k = .int .i64 j ∧ T = idxL acc (O.drop j) j ∧ Below w.heap.size w wr) (fun k _ => O.length - (intOf k).toNat)
 case atStart => exact ⟨0, by omega, rfl, HT0.out, Below.refl _ _⟩
 case round =>
  clear HT0
  obtain ⟨j, hj, rfl, hT, hbr⟩ := hrel
  have HBR := Lib.hid hbr
  by_cases hlt : j < O.length
  · have hltI : (j : Int) < (O.length : Int) := by omega
    obtain ⟨g, off, rfl, hg, hat⟩ := (HO.out.below hbr).get hlt
    have dl := hat.load
    have hC := HA.out wr hbr O[j]
    rw [List.drop_eq_getElem_cons hlt, idxL] at hT
    clear hbr hat
    generalize O[j] = x at dl hC hT
    have HC := Lib.hid hC
    have HT := Lib.hid hT
    clear hT hC
    generalize acc x = q at HC HT
    go_wp2_with fail
    refine HC.out.mono ?_
    rintro e w2 ⟨rfl, hb2⟩
    have HB2 := Lib.hid (HBR.out.trans (hb2.mono HBR.out.size))
    clear hb2 dl
    cases q with
    | true =>
      have HQ := Lib.hid (show T = some j by rw [HT.out, if_pos rfl])
      go_wp2_with fail
      go_ret
      exact ⟨by rw [HQ.out]; rfl, HB2.out⟩
    | false =>
      have HQ := Lib.hid (show T = idxL acc (O.drop (j + 1)) (j + 1) by rw [HT.out, if_neg (by simp)])
      go_wp2_with fail
      go_roundw
      case rel => exact ⟨j + 1, by omega, by go_num, HQ.out, HB2.out⟩
      case measure => (simp [intOf]) <;> omega
  · have hltI : ¬ (j : Int) < (O.length : Int) := by omega
    have HQ := Lib.hid (show T = none by rw [hT, List.drop_eq_nil_of_le (by omega)]; rfl)
    clear hT hbr
    go_wp2_with fail
    go_ret
    rw [HQ.out]
    exact ⟨rfl, HBR.out⟩
end
end

end Go.Proofs.YtcefkngblddpoaaGreatDoor

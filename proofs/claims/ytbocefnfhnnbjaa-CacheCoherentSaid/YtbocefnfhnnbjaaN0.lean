/-
  The pool of pages: keys of its map, whole structs, the closures that compare places. No condition.
-/
import Derived.Test.YtbocefnfhnnbjaaW3
import Derived.Laws.EntriesVeiled
import Derived.Deep.MidRow
namespace Go.Proofs.Ytbocefnfhnnbjaa
open Go.RowKit Go.Sort
open Go.Maps (Keyed)

theorem u104 : (match Try.prog.underlying 104 with | some (.array _ _) | some (.struct _) => true | _ => false) = true := by kernel_rfl
set_option maxRecDepth 100000 in
theorem keyed104 : Keyed Try.prog 104 := Keyed.of_law (deep_law_laid laidOut (m := 3) (by omega) (of_decide_eq_true (by kernel_rfl)) (by kernel_rfl) u104)
theorem cells104 : Try.prog.cellsOf 104 = 2 := by kernel_rfl
theorem lits104 (n : Nat) (a b : Int) (ha : I64 a) (hb : I64 b) : Try.prog.keyLits (n + 2) 104 [.int .i64 a, .int .i64 b] = some [.int .i64 a, .int .i64 b] := by
  unfold Program.keyLits; rw [Try.underlying104]
  simp [cells104, cells3, lits3 n _ ha, lits3 n _ hb]
theorem key104 (a b : Int) (ha : I64 a) (hb : I64 b) : ∃ l, keyOf Try.prog 104 (.agg #[.int .i64 a, .int .i64 b]) = some l := by
  have h2 : Try.prog.keyType 104 = true := by kernel_rfl
  have hs : ∃ n, Try.prog.types.size + 1 = n + 2 := ⟨Try.prog.types.size - 1, by have : 1 ≤ Try.prog.types.size := of_decide_eq_true (by kernel_rfl); omega⟩
  obtain ⟨n, hn⟩ := hs
  exact ⟨_, by simp only [keyOf, Try.underlying104, h2, Value.formed, cells104, hn, Value.cells, lits104 n a b ha hb]; rfl⟩
theorem keyAt : KeyS Try.prog 104 kPlace okP := ⟨fun {a b} h => by simp [kPlace] at h; exact Prod.ext h.1 h.2, keyed104, fun {k} hk => key104 _ _ hk.1 hk.2⟩
/-- A page with its version. -/
abbrev Ct := ByteArray × Int
def vCt (c : Ct) : Value := .agg #[.string c.1, .int .i64 c.2]
theorem zero106 (w : World) : (zeroValue 106).run Try.prog w = .ok (.agg #[.string ByteArray.empty, .int .i64 0]) w := by kernel_rfl

theorem info104 : (Try.prog.info? 104).map (·.size) = some 2 := by kernel_rfl
theorem info106 : (Try.prog.info? 106).map (·.size) = some 2 := by kernel_rfl
/-- A place, a page: loaded and stored whole. -/
def loadPl (p : Addr) : Sem Value := loadVar 104 p
theorem loadPl_down (p : Addr) : loadVar 104 p = loadPl p := rfl
theorem loadPl_at {w : World} {g : Nat} {cs : Array Value} {t : TypeId} {fr : Nat × Nat} (hg : w.heap[g]? = some (.cells cs t fr)) (hi : cs.size = 2) : (loadPl ⟨g, 0, none⟩).run Try.prog w = .ok (.agg cs) w :=
  run_loadVar_row (P := Try.prog) w g t 104 cs fr _ hg Try.underlying104 rfl (by rw [info104, hi])
theorem loadPl_mid {w : World} {b o : Nat} {x y : Int} (h0 : w.cell? ⟨b, o, none⟩ = some (.int .i64 x)) (h1 : w.cell? ⟨b, o + 1, none⟩ = some (.int .i64 y)) : (loadPl ⟨b, o, none⟩).run Try.prog w = .ok (.agg #[.int .i64 x, .int .i64 y]) w :=
  run_loadVar_mid (P := Try.prog) w b o 104 [.int .i64 x, .int .i64 y] _ (fun j v hj => by
    match j with
    | 0 => simp at hj; subst hj; exact h0
    | 1 => simp at hj; subst hj; exact h1
    | j + 2 => simp at hj) Try.underlying104 rfl (by rw [info104]; rfl)
def storePl (p : Addr) (v : Value) : Sem Unit := storeVar 104 p v
theorem storePl_down (p : Addr) (v : Value) : storeVar 104 p v = storePl p v := rfl
theorem storePl_at {w : World} {g : Nat} {cs : Array Value} {t : TypeId} {old : Array Value} (hg : w.heap[g]? = some (.cells old t (0, 0))) (hi : cs.size = 2) (ho : old.size = cs.size) (h1 : cs.all (·.oneCell') = true) : (storePl ⟨g, 0, none⟩ (.agg cs)).run Try.prog w = .ok () (w.setRow g cs) :=
  run_storeVar_row (P := Try.prog) w g t 104 old cs hg (by rw [info104, hi]) ho h1
def loadCt (p : Addr) : Sem Value := loadVar 106 p
theorem loadCt_down (p : Addr) : loadVar 106 p = loadCt p := rfl
theorem loadCt_at {w : World} {g : Nat} {cs : Array Value} {t : TypeId} {fr : Nat × Nat} (hg : w.heap[g]? = some (.cells cs t fr)) (hi : cs.size = 2) : (loadCt ⟨g, 0, none⟩).run Try.prog w = .ok (.agg cs) w :=
  run_loadVar_row (P := Try.prog) w g t 106 cs fr _ hg Try.underlying106 rfl (by rw [info106, hi])
def storeCt (p : Addr) (v : Value) : Sem Unit := storeVar 106 p v
theorem storeCt_down (p : Addr) (v : Value) : storeVar 106 p v = storeCt p v := rfl
theorem storeCt_at {w : World} {g : Nat} {cs : Array Value} {t : TypeId} {old : Array Value} (hg : w.heap[g]? = some (.cells old t (0, 0))) (hi : cs.size = 2) (ho : old.size = cs.size) (h1 : cs.all (·.oneCell') = true) : (storeCt ⟨g, 0, none⟩ (.agg cs)).run Try.prog w = .ok () (w.setRow g cs) :=
  run_storeVar_row (P := Try.prog) w g t 106 old cs hg (by rw [info106, hi]) ho h1
/-- Places. -/
abbrev Pl := Int × Int
section
attribute [local go_sem ↓] loadPl_down storePl_down loadCt_down storeCt_down

def isAt (x y : Pl) : Bool := decide (y = x)

set_option maxRecDepth 100000 in
set_option maxHeartbeats 1000000 in
theorem useAt_any (w : World) (g : Nat) (x y : Pl) (hg : w.heap[g]? = some (.cells #[.int .i64 x.1, .int .i64 x.2] 104 (0, 0))) :
    Calls Try.prog 59 #[kPlace y, .pointer (some ⟨g, 0, none⟩)] w fun e w' => e = .returned (.bool (isAt x y)) ∧ Below w.heap.size w w' := by
  obtain ⟨x1, x2⟩ := x
  obtain ⟨y1, y2⟩ := y
  simp only at hg
  have HB := Lib.hid (show Below w.heap.size w (w.alloc (.cells #[.int .i64 y1, .int .i64 y2] 104)) from (Below.refl _ _).alloc (Nat.le_refl _) _)
  have dl0 := loadPl_at (heap_alloc_new w (.cells #[.int .i64 y1, .int .i64 y2] 104)) rfl
  have dl1 := loadPl_at ((HB.out.block g (lt_of_block hg)).trans hg) rfl
  have HQ := Lib.hid (show isAt (x1, x2) (y1, y2) = decide (y1 = x1 ∧ y2 = x2) by unfold isAt; simp)
  generalize isAt (x1, x2) (y1, y2) = q at HQ ⊢
  unfold kPlace
  clear hg
  by_cases h1 : y1 = x1
  · subst h1
    by_cases h2 : y2 = x2
    · subst h2
      have HF := Lib.hid (show q = true by rw [HQ.out]; simp)
      go_enter Try.func59, Try.ntmps59
      go_wp2_with fail
      go_ret
      rw [HF.out]
      exact ⟨by first | rfl | simp, HB.out⟩
    · have HF := Lib.hid (show q = false by rw [HQ.out]; simp [h2])
      go_enter Try.func59, Try.ntmps59
      go_wp2_with fail
      go_ret
      rw [HF.out]
      exact ⟨by first | rfl | simp [h2], HB.out⟩
  · have HF := Lib.hid (show q = false by rw [HQ.out]; simp [h1])
    go_enter Try.func59, Try.ntmps59
    go_wp2_with fail
    go_ret
    rw [HF.out]
    exact ⟨by first | rfl | simp [h1], HB.out⟩
set_option maxRecDepth 100000 in
set_option maxHeartbeats 1000000 in
theorem putAt_any (w : World) (g : Nat) (x y : Pl) (hg : w.heap[g]? = some (.cells #[.int .i64 x.1, .int .i64 x.2] 104 (0, 0))) :
    Calls Try.prog 47 #[kPlace y, .pointer (some ⟨g, 0, none⟩)] w fun e w' => e = .returned (.bool (isAt x y)) ∧ Below w.heap.size w w' := by
  obtain ⟨x1, x2⟩ := x
  obtain ⟨y1, y2⟩ := y
  simp only at hg
  have HB := Lib.hid (show Below w.heap.size w (w.alloc (.cells #[.int .i64 y1, .int .i64 y2] 104)) from (Below.refl _ _).alloc (Nat.le_refl _) _)
  have dl0 := loadPl_at (heap_alloc_new w (.cells #[.int .i64 y1, .int .i64 y2] 104)) rfl
  have dl1 := loadPl_at ((HB.out.block g (lt_of_block hg)).trans hg) rfl
  have HQ := Lib.hid (show isAt (x1, x2) (y1, y2) = decide (y1 = x1 ∧ y2 = x2) by unfold isAt; simp)
  generalize isAt (x1, x2) (y1, y2) = q at HQ ⊢
  unfold kPlace
  clear hg
  by_cases h1 : y1 = x1
  · subst h1
    by_cases h2 : y2 = x2
    · subst h2
      have HF := Lib.hid (show q = true by rw [HQ.out]; simp)
      go_enter Try.func47, Try.ntmps47
      go_wp2_with fail
      go_ret
      rw [HF.out]
      exact ⟨by first | rfl | simp, HB.out⟩
    · have HF := Lib.hid (show q = false by rw [HQ.out]; simp [h2])
      go_enter Try.func47, Try.ntmps47
      go_wp2_with fail
      go_ret
      rw [HF.out]
      exact ⟨by first | rfl | simp [h2], HB.out⟩
  · have HF := Lib.hid (show q = false by rw [HQ.out]; simp [h1])
    go_enter Try.func47, Try.ntmps47
    go_wp2_with fail
    go_ret
    rw [HF.out]
    exact ⟨by first | rfl | simp [h1], HB.out⟩

end

/-- What a closure that is asked of places needs: it answers as a plain predicate and turns nothing old. -/
structure Asks (w : World) (g : Nat) (capt : Array Value) (acc : Pl → Bool) : Prop where
  call : ∀ (W : World) (x : Pl), Below w.heap.size w W → okP x → Calls Try.prog g (#[kPlace x] ++ capt) W fun e w' => e = .returned (.bool (acc x)) ∧ Below W.heap.size W w'
  enter : ∀ (args : Array Value) (W : World), (callFunc g args).run Try.prog W = .ok (.enter g args) W
/-- The same, whatever happens to the blocks in S. -/
structure AsksO (S : List Nat) (w : World) (g : Nat) (capt : Array Value) (acc : Pl → Bool) : Prop where
  call : ∀ (W : World) (x : Pl), Only S w W → okP x → Calls Try.prog g (#[kPlace x] ++ capt) W fun e w' => e = .returned (.bool (acc x)) ∧ Below W.heap.size W w'
  enter : ∀ (args : Array Value) (W : World), (callFunc g args).run Try.prog W = .ok (.enter g args) W

set_option maxRecDepth 100000 in
set_option maxHeartbeats 2000000 in
theorem del_any (w : World) (wb xb pb mb : Nat) (g : Nat) (capt : Array Value) (acc : Pl → Bool) (x : Pl) (M : List (Pl × Ct)) (v0 v2 v3 v4 : Value)
    (hw : w.heap[wb]? = some (.cells #[.func (.func g) #[] capt] 110 (0, 0))) (hx : w.heap[xb]? = some (.cells #[.pointer (some ⟨pb, 0, none⟩)] 53 (0, 0))) (hp : w.heap[pb]? = some (.cells #[v0, .map (some mb), v2, v3, v4] 93 (0, 0)))
    (hm : amap w mb kPlace vCt okP M) (ha : Asks w g capt acc) (hI : okP x) :
    Calls Try.prog 61 #[kPlace x, .pointer (some ⟨wb, 0, none⟩), .pointer (some ⟨xb, 0, none⟩)] w fun e w' => e = .returned (.bool (acc x)) ∧ amap w' mb kPlace vCt okP (if acc x = true then adel M x else M) ∧ Only [mb] w w' := by
  obtain ⟨x1, x2⟩ := x
  obtain ⟨W0, hW0⟩ : ∃ W0, W0 = w.alloc (.cells #[.int .i64 x1, .int .i64 x2] 104) := ⟨_, rfl⟩
  have hb0 : Below w.heap.size w W0 := by rw [hW0]; exact (Below.refl _ _).alloc (Nat.le_refl _) _
  have hd0 : W0.heap[w.heap.size]? = some (.cells #[.int .i64 x1, .int .i64 x2] 104 (0, 0)) := by rw [hW0]; exact heap_alloc_new w _
  have cw := cell_at (i := 0) (v := .func (.func g) #[] capt) ((hb0.block wb (lt_of_block hw)).trans hw) rfl
  have y0 := cell_at (i := 0) (v := .int .i64 x1) hd0 rfl
  have y1 := cell_at (i := 1) (v := .int .i64 x2) hd0 rfl
  have HC := Lib.hid (ha.call W0 (x1, x2) hb0 hI)
  have hent := ha.enter
  have HB0 := Lib.hid hb0
  have HD0 := Lib.hid hd0
  have HX := Lib.hid hx
  have HP := Lib.hid hp
  have HM := Lib.hid hm
  have HW0 := Lib.hid hW0
  have HI := Lib.hid hI
  rw [hW0] at cw y0 y1
  unfold kPlace at HC ⊢
  generalize acc (x1, x2) = q at HC ⊢
  clear hb0 hd0 hx hp hm hW0 hI ha hw
  go_enter Try.func61, Try.ntmps61
  go_wp2_with fail
  rw [← HW0.out]
  refine HC.out.mono ?_
  rintro e w1 ⟨rfl, hb1⟩
  have hb01 := HB0.out.trans (hb1.mono HB0.out.size)
  have hd1 := (hb1.block _ (lt_of_block HD0.out)).trans HD0.out
  have hm1 := amap_keep HM.out (hb01.block mb (amap_lt HM.out))
  have HM1 := Lib.hid hm1
  have HB1 := Lib.hid hb01
  cases q with
  | false =>
    clear hb1 hb01 hd1 hm1 cw y0 y1
    go_wp2_with fail
    go_ret
    exact ⟨rfl, HM1.out, Only.of_below HB1.out⟩
  | true =>
    have z0 := cell_at (i := 0) (v := .int .i64 x1) hd1 rfl
    have z1 := cell_at (i := 1) (v := .int .i64 x2) hd1 rfl
    have cx := cell_at (i := 0) (v := .pointer (some ⟨pb, 0, none⟩)) ((hb01.block xb (lt_of_block HX.out)).trans HX.out) rfl
    have cp := cell_at (i := 1) (v := .map (some mb)) ((hb01.block pb (lt_of_block HP.out)).trans HP.out) rfl
    clear hb1 hb01 hd1 hm1 cw y0 y1
    go_wp2_with fail
    go_still_tail 5, (by kernel_rfl)
    refine wpList_adelete rfl _ _ rfl keyAt Try.underlying90 (amap_keep (w' := w1.drew) HM1.out rfl) rfl (x1, x2) rfl HI.out ?_
    intro w5 hm5 hg5 hs5
    have HM5 := Lib.hid hm5
    have HO5 := Lib.hid (show Only [mb] w w5 from ((Only.of_below HB1.out).drew).grown hg5 (fun k hk => by obtain rfl := Option.some.inj hk; exact Or.inl (by simp)))
    clear z0 z1 cx cp hm5 hg5 hs5
    go_wp2_with fail
    go_ret
    exact ⟨rfl, by first | exact HM5.out | simpa using HM5.out, HO5.out⟩

end Go.Proofs.Ytbocefnfhnnbjaa

/-
  Walks: whether a description is valid, by the reference.
  Loads of a whole description and of a whole content, kept as one step. No condition.
  Walks: whether records are few and short.
  Walks: whether a record is of an allowed length.
  Walks: whether records are allowed, by the program.
-/
import Derived.Test.YthkpcalopmddpaaGreatDoorGB
import Derived.Test.YthkpcalopmddpaaGreatDoorGE
import Derived.Test.YthkpcalopmddpaaGreatDoorGC
import Derived.Test.YthkpcalopmddpaaGreatDoorGD
namespace Go.Proofs.YthkpcalopmddpaaGreatDoor

section
open Go.RowKit Go.Sort

def dsV (org fmt len blk : Int) : Bool :=
  if org = 0 then (if fmt = 0 then fixV len blk else if fmt = 1 then varV len blk else if fmt = 2 then spnV len blk && decide (32 ≤ blk) else false) else false
theorem box_below (w : World) (s : Array Value) (t : TypeId) : Below w.heap.size w (w.alloc (.cells s t)) := (Below.refl _ _).alloc (Nat.le_refl _) _

set_option maxRecDepth 100000 in
set_option maxHeartbeats 1000000 in
theorem rvalid_any (org fmt len blk : Int) (w : World) :
    Calls Tryz.prog 36 #[.agg (dsv org fmt len blk)] w fun e w' => e = .returned (.bool (dsV org fmt len blk)) ∧ Below w.heap.size w w' := by
  have HB := Lib.hid (box_below w (dsv org fmt len blk) 29)
  by_cases ho : org = 0
  · subst ho
    by_cases h0 : fmt = 0
    · subst h0
      have HR := Lib.hid (show dsV 0 0 len blk = fixV len blk from rfl)
      go_enter Tryz.func36, Tryz.ntmps36
      go_wp2_with fail
      refine (rfix_valid _ _ _).mono ?_
      rintro e w1 ⟨rfl, rfl⟩
      rw [← HR.out]
      go_wp2
      go_ret
      exact ⟨rfl, HB.out⟩
    · by_cases h1 : fmt = 1
      · subst h1
        have HR := Lib.hid (show dsV 0 1 len blk = varV len blk from rfl)
        go_enter Tryz.func36, Tryz.ntmps36
        go_wp2_with fail
        refine (rvar_valid _ _ _).mono ?_
        rintro e w1 ⟨rfl, rfl⟩
        rw [← HR.out]
        go_wp2
        go_ret
        exact ⟨rfl, HB.out⟩
      · by_cases h2 : fmt = 2
        · subst h2
          have HR := Lib.hid (show dsV 0 2 len blk = (spnV len blk && decide (32 ≤ blk)) from rfl)
          clear h0 h1
          by_cases h3 : 32 ≤ blk
          · rw [decide_eq_true h3, Bool.and_true] at HR
            go_enter Tryz.func36, Tryz.ntmps36
            go_wp2_with fail
            refine (rspn_valid _ _ _).mono ?_
            rintro e w1 ⟨rfl, rfl⟩
            rw [← HR.out]
            generalize hq : dsV 0 2 len blk = q
            have HQ := Lib.hid hq
            clear hq
            cases q
            · go_wp2
              go_ret
              exact ⟨by first | (rw [HQ.out]; rfl) | rfl, HB.out⟩
            · go_wp2
              go_ret
              exact ⟨by first | (rw [HQ.out]; rfl) | rfl, HB.out⟩
          · rw [decide_eq_false h3, Bool.and_false] at HR
            go_enter Tryz.func36, Tryz.ntmps36
            go_wp2_with fail
            refine (rspn_valid _ _ _).mono ?_
            rintro e w1 ⟨rfl, rfl⟩
            generalize spnV len blk = q
            cases q
            · go_wp2
              go_ret
              exact ⟨by first | (rw [HR.out]; rfl) | rfl | (rw [HR.out]; show Ending.returned (.bool (decide (32 ≤ blk))) = _; rw [decide_eq_false (show ¬ (32 : Int) ≤ blk by omega)]), HB.out⟩
            · go_wp2
              go_ret
              exact ⟨by first | (rw [HR.out]; rfl) | rfl | (rw [HR.out]; show Ending.returned (.bool (decide (32 ≤ blk))) = _; rw [decide_eq_false (show ¬ (32 : Int) ≤ blk by omega)]), HB.out⟩
        · have HR := Lib.hid (show dsV 0 fmt len blk = false by simp [dsV, h0, h1, h2])
          have e0 : (fmt == 0) = false := by simp [h0]
          have e1 : (fmt == 1) = false := by simp [h1]
          have e2 : (fmt == 2) = false := by simp [h2]
          go_enter Tryz.func36, Tryz.ntmps36
          go_wp2
          go_ret
          exact ⟨by first | (rw [HR.out]; rfl) | rfl, HB.out⟩
  · have HR := Lib.hid (show dsV org fmt len blk = false by simp [dsV, ho])
    have e0 : (org == 0) = false := by simp [ho]
    have e1 : (org != 0) = true := by simp [ho]
    go_enter Tryz.func36, Tryz.ntmps36
    go_wp2
    go_ret
    exact ⟨by first | (rw [HR.out]; rfl) | rfl, HB.out⟩
end

section
open Go.RowKit Go.Sort

/-- A description, loaded whole. -/
def loadDs (p : Addr) : Sem Value := loadVar 29 p
theorem loadDs_down (p : Addr) : loadVar 29 p = loadDs p := rfl
theorem loadDs_at {w : World} {g : Nat} {cs : Array Value} {t : TypeId} {fr : Nat × Nat} (hg : w.heap[g]? = some (.cells cs t fr)) (hi : cs.size = 21) : (loadDs ⟨g, 0, none⟩).run Tryz.prog w = .ok (.agg cs) w :=
  run_loadVar_row (P := Tryz.prog) w g t 29 cs fr _ hg Tryz.underlying29 rfl (by rw [info_ds, hi])
end

section
open Go.RowKit Go.Sort
attribute [local go_sem] ByteArray.mk_append_mk strOfNums_size

def fewV (l : List By) (n k : Nat) : Bool := l.all (fun r => decide (r.length ≤ k)) && decide (l.length ≤ n)

set_option maxRecDepth 100000 in
set_option maxHeartbeats 1000000 in
theorem few_any (w : World) (B : Nat) (a : Option Addr) (cap : Nat) (l : List By) (n k : Nat) (h : Strs w B a l) (hl : l.length ≤ 9223372036854775807) :
    Calls Tryz.prog 20 #[.slice a l.length cap, .int .i64 n, .int .i64 k] w fun e w' => e = .returned (.bool (fewV l n k)) ∧ w = w' := by
  go_enter Tryz.func20, Tryz.ntmps20
  go_wp2_with fail
  go_loop [7] (fun x => ∃ j : Nat, j ≤ l.length ∧ x = .int .i64 j ∧ ∀ i (hi : i < l.length), i < j → l[i].length ≤ k) (fun x => l.length - (intOf x).toNat)
  case atStart => exact ⟨0, by omega, rfl, fun i hi h => absurd h (by omega)⟩
  case round =>
    obtain ⟨j, hj, rfl, hno⟩ := hrel
    by_cases hlt : j < l.length
    · obtain ⟨b, off, rfl, hbb, hc⟩ := h.get hlt
      by_cases hp : l[j].length ≤ k
      · have HNo := Lib.hid (show ∀ i (hi : i < l.length), i < j + 1 → l[i].length ≤ k from fun i hi h => by
          rcases Nat.lt_or_ge i j with h2 | h2
          · exact hno i hi h2
          · have e : i = j := by omega
            subst e; exact hp)
        have hpI : (l[j].length : Int) ≤ (k : Int) := by omega
        clear hno hp
        generalize l[j] = r at hc hpI
        go_wp2_with fail
        go_round
        case rel => exact ⟨j + 1, by omega, by go_num, HNo.out⟩
        case measure => simp [intOf]; omega
      · have HA := Lib.hid (show fewV l n k = false from by
          have : l.all (fun r => decide (r.length ≤ k)) = false := by
            rw [List.all_eq_false]; exact ⟨l[j], List.getElem_mem hlt, by simpa using hp⟩
          unfold fewV; rw [this]; rfl)
        have hpI : ¬ (l[j].length : Int) ≤ (k : Int) := by omega
        clear hno hp
        generalize l[j] = r at hc hpI
        go_wp2_with fail
        go_ret
        exact ⟨by rw [HA.out]; rfl, rfl⟩
    · have hall : l.all (fun r => decide (r.length ≤ k)) = true := by
        rw [List.all_eq_true]
        intro x hx
        obtain ⟨i, hi, rfl⟩ := List.mem_iff_getElem.1 hx
        exact decide_eq_true (hno i hi (by omega))
      have HA := Lib.hid (show fewV l n k = decide (l.length ≤ n) by unfold fewV; rw [hall]; rfl)
      clear hno hall
      by_cases hn : l.length ≤ n
      · have HD := Lib.hid (show fewV l n k = true by rw [HA.out]; exact decide_eq_true hn)
        have hnI : (l.length : Int) ≤ (n : Int) := by omega
        go_wp2_with fail
        go_ret
        exact ⟨by rw [HD.out]; rfl, rfl⟩
      · have HD := Lib.hid (show fewV l n k = false by rw [HA.out]; exact decide_eq_false hn)
        have hnI : ¬ (l.length : Int) ≤ (n : Int) := by omega
        go_wp2_with fail
        go_ret
        exact ⟨by rw [HD.out]; rfl, rfl⟩
end

section
open Go.RowKit Go.Sort
attribute [local go_sem] strOfNums_size

set_option maxRecDepth 100000 in
set_option maxHeartbeats 400000 in
theorem equal_any (n len : Int) (w : World) : Calls Tryz.prog 90 #[.int .i64 n, .int .i64 len] w fun e w' => e = .returned (.bool (decide (n = len))) ∧ w = w' := by
  by_cases h : n = len
  · subst h
    have H := Lib.hid (show decide (n = n) = true by simp)
    go_enter Tryz.func90, Tryz.ntmps90
    go_wp2
    go_ret
    exact ⟨by first | (rw [H.out]; rfl) | rfl, rfl⟩
  · have H := Lib.hid (show decide (n = len) = false by simp [h])
    have e0 : (n == len) = false := by simp [h]
    go_enter Tryz.func90, Tryz.ntmps90
    go_wp2
    go_ret
    exact ⟨by first | (rw [H.out]; rfl) | rfl, rfl⟩

set_option maxRecDepth 100000 in
set_option maxHeartbeats 400000 in
theorem eqclos_any (r : By) (g1 g2 : Nat) (len : Int) (w : World) (h1 : w.cell? ⟨g1, 0, none⟩ = some (fnv 90)) (h2 : w.cell? ⟨g2, 3, none⟩ = some (.int .i64 len)) :
    Calls Tryz.prog 73 #[.string ⟨r.toArray⟩, .pointer (some ⟨g1, 0, none⟩), .pointer (some ⟨g2, 0, none⟩)] w fun e w' => e = .returned (.bool (!(decide ((r.length : Int) = len)))) ∧ w = w' := by
  have HC := Lib.hid (equal_any (r.length : Int) len w)
  generalize decide ((r.length : Int) = len) = q at HC ⊢
  go_enter Tryz.func73, Tryz.ntmps73
  go_wp2_with fail
  refine HC.out.mono ?_
  rintro e w1 ⟨rfl, rfl⟩
  go_wp2
  go_ret
  exact ⟨rfl, rfl⟩

set_option maxRecDepth 100000 in
set_option maxHeartbeats 400000 in
theorem atclos_any (r : By) (g1 g2 : Nat) (len : Int) (w : World) (h1 : w.cell? ⟨g1, 0, none⟩ = some (fnv 94)) (h2 : w.cell? ⟨g2, 3, none⟩ = some (.int .i64 len)) :
    Calls Tryz.prog 73 #[.string ⟨r.toArray⟩, .pointer (some ⟨g1, 0, none⟩), .pointer (some ⟨g2, 0, none⟩)] w fun e w' => e = .returned (.bool (!(decide ((r.length : Int) ≤ len)))) ∧ w = w' := by
  have HC := Lib.hid (atmost_any (r.length : Int) len w)
  generalize decide ((r.length : Int) ≤ len) = q at HC ⊢
  go_enter Tryz.func73, Tryz.ntmps73
  go_wp2_with fail
  refine HC.out.mono ?_
  rintro e w1 ⟨rfl, rfl⟩
  go_wp2
  go_ret
  exact ⟨rfl, rfl⟩
end

section
open Go.RowKit Go.Sort
theorem info_fn : (Tryz.prog.info? 104).map (·.size) = some 1 := by kernel_rfl
theorem setRow_cell0 (w : World) (t : TypeId) (o v : Value) : ((w.alloc (.cells #[o] t)).setRow w.heap.size #[v]).heap[w.heap.size]? = some (.cells #[v] t (0, 0)) :=
  setRow_heap _ _ _ _ _ _ (heap_alloc_new w (.cells #[o] t))

set_option maxRecDepth 100000 in
set_option maxHeartbeats 1000000 in
theorem allowed2_any (org fmt len blk : Int) (h0 : ¬ fmt = 0) (h1 : ¬ fmt = 1) (w : World) (B : Nat) (a : Option Addr) (cap : Nat) (l : List By) (h : Strs w B a l) (hB : B ≤ w.heap.size) (hl : l.length ≤ 1000000) :
    Calls Tryz.prog 52 #[.agg (dsv org fmt len blk), .slice a l.length cap] w fun e w' => e = .returned (.bool (!(l.any fun r => !(decide ((r.length : Int) ≤ len))))) ∧ Below w.heap.size w w' := by
  obtain ⟨q, hq⟩ : ∃ q, (l.any fun r => !(decide ((r.length : Int) ≤ len))) = q := ⟨_, rfl⟩
  rw [hq]
  have HQ := Lib.hid hq
  clear hq
  have hmf : ∀ (fn : Fn) (first cap : Array Value) (w : World), (Instr.makeFunc fn first cap).run Tryz.prog w = .ok (.func fn first cap) w := fun _ _ _ _ => rfl
  have hfd : ∀ W : World, (Instr.field 114 (.agg #[fnv 95, fnv 96, fnv 97, .int .i64 32, fnv 94]) 4).run Tryz.prog W = .ok (fnv 94) W := fun _ => by kernel_rfl
  have HF := Lib.hid (fun W => format2_any org fmt len blk W h0 h1)
  have HB := Lib.hid (box_below w (dsv org fmt len blk) 29)
  have HZ := Lib.hid (heap_alloc_new w (.cells (dsv org fmt len blk) 29))
  go_enter Tryz.func52, Tryz.ntmps52
  go_wp2_with (refine wpList_load_row rfl _ _ rfl w.heap.size rfl 29 (dsv org fmt len blk) (0, 0) _ HZ.out Tryz.underlying29 rfl (by rw [info_ds]; rfl) ?_)
  refine (HF.out _).mono ?_
  rintro e w2 ⟨rfl, hb2⟩
  go_wp2_with (refine wpList_store_oneTo rfl _ _ _ rfl rfl w2.heap.size (fnv 94) rfl rfl rfl _ .nilFunc (heap_alloc_new _ _) info_fn ?_)
  have hb3 : Below w.heap.size w w2 := HB.out.trans (hb2.mono HB.out.size)
  have hZ2 := (hb2.block w.heap.size (by simp)).trans HZ.out
  have hlt2 := lt_of_block hZ2
  have hb4 := Below.setRow (hb3.alloc hb3.size (.cells #[.nilFunc] 104)) hb3.size #[fnv 94]
  have hc1 := cell_at (i := 0) (setRow_cell0 w2 104 .nilFunc (fnv 94)) rfl
  have hZ3 : ((w2.alloc (.cells #[.nilFunc] 104)).setRow w2.heap.size #[fnv 94]).heap[w.heap.size]? = _ := (setRow_other _ w2.heap.size w.heap.size _ (by omega)).trans ((halloc w2 _ hlt2).trans hZ2)
  have hc2 := cell_at (i := 3) (v := .int .i64 len) hZ3 rfl
  have HS := Lib.hid (h.below (hb4.mono hB))
  have HB4 := Lib.hid hb4
  have HC := Lib.hid (fun r => atclos_any r w2.heap.size w.heap.size len _ hc1 hc2)
  clear hb2 hb3 hb4 hc1 hc2 hZ2 hZ3 hlt2
  refine (containsA_any _ _ (fun r => !(decide ((r.length : Int) ≤ len))) _ B a cap l HS.out hl (fun r _ => HC.out r)).mono ?_
  rintro e w4 ⟨rfl, rfl⟩
  rw [HQ.out]
  go_wp2
  go_ret
  exact ⟨rfl, HB4.out⟩

set_option maxRecDepth 100000 in
set_option maxHeartbeats 1000000 in
theorem allowed1_any (org len blk : Int) (w : World) (B : Nat) (a : Option Addr) (cap : Nat) (l : List By) (h : Strs w B a l) (hB : B ≤ w.heap.size) (hl : l.length ≤ 1000000) :
    Calls Tryz.prog 52 #[.agg (dsv org 1 len blk), .slice a l.length cap] w fun e w' => e = .returned (.bool (!(l.any fun r => !(decide ((r.length : Int) ≤ len))))) ∧ Below w.heap.size w w' := by
  obtain ⟨q, hq⟩ : ∃ q, (l.any fun r => !(decide ((r.length : Int) ≤ len))) = q := ⟨_, rfl⟩
  rw [hq]
  have HQ := Lib.hid hq
  clear hq
  have hmf : ∀ (fn : Fn) (first cap : Array Value) (w : World), (Instr.makeFunc fn first cap).run Tryz.prog w = .ok (.func fn first cap) w := fun _ _ _ _ => rfl
  have hfd : ∀ g : Nat, ∀ W : World, (Instr.field 114 (.agg #[fnv 91, fnv 92, .func (.func 108) #[] #[.pointer (some ⟨g, 0, none⟩)], .int .i64 0, fnv 94]) 4).run Tryz.prog W = .ok (fnv 94) W := fun _ _ => by kernel_rfl
  have HF := Lib.hid (fun W => format1_any org len blk W)
  have HB := Lib.hid (box_below w (dsv org 1 len blk) 29)
  have HZ := Lib.hid (heap_alloc_new w (.cells (dsv org 1 len blk) 29))
  go_enter Tryz.func52, Tryz.ntmps52
  go_wp2_with (refine wpList_load_row rfl _ _ rfl w.heap.size rfl 29 (dsv org 1 len blk) (0, 0) _ HZ.out Tryz.underlying29 rfl (by rw [info_ds]; rfl) ?_)
  refine (HF.out _).mono ?_
  rintro e w2 ⟨g, rfl, hb2⟩
  go_wp2_with (refine wpList_store_oneTo rfl _ _ _ rfl rfl w2.heap.size (fnv 94) rfl rfl rfl _ .nilFunc (heap_alloc_new _ _) info_fn ?_)
  have hb3 : Below w.heap.size w w2 := HB.out.trans (hb2.mono HB.out.size)
  have hZ2 := (hb2.block w.heap.size (by simp)).trans HZ.out
  have hlt2 := lt_of_block hZ2
  have hb4 := Below.setRow (hb3.alloc hb3.size (.cells #[.nilFunc] 104)) hb3.size #[fnv 94]
  have hc1 := cell_at (i := 0) (setRow_cell0 w2 104 .nilFunc (fnv 94)) rfl
  have hZ3 : ((w2.alloc (.cells #[.nilFunc] 104)).setRow w2.heap.size #[fnv 94]).heap[w.heap.size]? = _ := (setRow_other _ w2.heap.size w.heap.size _ (by omega)).trans ((halloc w2 _ hlt2).trans hZ2)
  have hc2 := cell_at (i := 3) (v := .int .i64 len) hZ3 rfl
  have HS := Lib.hid (h.below (hb4.mono hB))
  have HB4 := Lib.hid hb4
  have HC := Lib.hid (fun r => atclos_any r w2.heap.size w.heap.size len _ hc1 hc2)
  clear hb2 hb3 hb4 hc1 hc2 hZ2 hZ3 hlt2
  refine (containsA_any _ _ (fun r => !(decide ((r.length : Int) ≤ len))) _ B a cap l HS.out hl (fun r _ => HC.out r)).mono ?_
  rintro e w4 ⟨rfl, rfl⟩
  rw [HQ.out]
  go_wp2
  go_ret
  exact ⟨rfl, HB4.out⟩

set_option maxRecDepth 100000 in
set_option maxHeartbeats 1000000 in
theorem allowed0_any (org len blk : Int) (w : World) (B : Nat) (a : Option Addr) (cap : Nat) (l : List By) (h : Strs w B a l) (hB : B ≤ w.heap.size) (hl : l.length ≤ 1000000) :
    Calls Tryz.prog 52 #[.agg (dsv org 0 len blk), .slice a l.length cap] w fun e w' => e = .returned (.bool (!(l.any fun r => !(decide ((r.length : Int) = len))))) ∧ Below w.heap.size w w' := by
  obtain ⟨q, hq⟩ : ∃ q, (l.any fun r => !(decide ((r.length : Int) = len))) = q := ⟨_, rfl⟩
  rw [hq]
  have HQ := Lib.hid hq
  clear hq
  have hmf : ∀ (fn : Fn) (first cap : Array Value) (w : World), (Instr.makeFunc fn first cap).run Tryz.prog w = .ok (.func fn first cap) w := fun _ _ _ _ => rfl
  have hfd : ∀ g : Nat, ∀ W : World, (Instr.field 114 (.agg #[fnv 86, fnv 87, .func (.func 108) #[] #[.pointer (some ⟨g, 0, none⟩)], .int .i64 0, fnv 90]) 4).run Tryz.prog W = .ok (fnv 90) W := fun _ _ => by kernel_rfl
  have HF := Lib.hid (fun W => format0_any org len blk W)
  have HB := Lib.hid (box_below w (dsv org 0 len blk) 29)
  have HZ := Lib.hid (heap_alloc_new w (.cells (dsv org 0 len blk) 29))
  go_enter Tryz.func52, Tryz.ntmps52
  go_wp2_with (refine wpList_load_row rfl _ _ rfl w.heap.size rfl 29 (dsv org 0 len blk) (0, 0) _ HZ.out Tryz.underlying29 rfl (by rw [info_ds]; rfl) ?_)
  refine (HF.out _).mono ?_
  rintro e w2 ⟨g, rfl, hb2⟩
  go_wp2_with (refine wpList_store_oneTo rfl _ _ _ rfl rfl w2.heap.size (fnv 90) rfl rfl rfl _ .nilFunc (heap_alloc_new _ _) info_fn ?_)
  have hb3 : Below w.heap.size w w2 := HB.out.trans (hb2.mono HB.out.size)
  have hZ2 := (hb2.block w.heap.size (by simp)).trans HZ.out
  have hlt2 := lt_of_block hZ2
  have hb4 := Below.setRow (hb3.alloc hb3.size (.cells #[.nilFunc] 104)) hb3.size #[fnv 90]
  have hc1 := cell_at (i := 0) (setRow_cell0 w2 104 .nilFunc (fnv 90)) rfl
  have hZ3 : ((w2.alloc (.cells #[.nilFunc] 104)).setRow w2.heap.size #[fnv 90]).heap[w.heap.size]? = _ := (setRow_other _ w2.heap.size w.heap.size _ (by omega)).trans ((halloc w2 _ hlt2).trans hZ2)
  have hc2 := cell_at (i := 3) (v := .int .i64 len) hZ3 rfl
  have HS := Lib.hid (h.below (hb4.mono hB))
  have HB4 := Lib.hid hb4
  have HC := Lib.hid (fun r => eqclos_any r w2.heap.size w.heap.size len _ hc1 hc2)
  clear hb2 hb3 hb4 hc1 hc2 hZ2 hZ3 hlt2
  refine (containsA_any _ _ (fun r => !(decide ((r.length : Int) = len))) _ B a cap l HS.out hl (fun r _ => HC.out r)).mono ?_
  rintro e w4 ⟨rfl, rfl⟩
  rw [HQ.out]
  go_wp2
  go_ret
  exact ⟨rfl, HB4.out⟩
end

end Go.Proofs.YthkpcalopmddpaaGreatDoor

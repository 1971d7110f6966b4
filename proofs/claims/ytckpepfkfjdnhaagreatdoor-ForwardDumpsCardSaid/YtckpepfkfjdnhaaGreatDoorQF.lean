/-
  Walks: the format of a description, as the program has it.
  Walks: whether a record is of an allowed length.
  Walks: whether records are allowed, by the program.
  Walks: whether a description is valid, by the program. No condition.
  Walks: whether a description is valid, by the program: all cases. No condition.
  Walks: records with lengths of their own, packed by the program. Conditions: valid sizes, at most 1000 records of at most the length.
-/
import Derived.Test.YtckpepfkfjdnhaaGreatDoorQB
import Derived.Test.YtckpepfkfjdnhaaGreatDoorQD
import Derived.Test.YtckpepfkfjdnhaaGreatDoorQC
import Derived.Test.YtckpepfkfjdnhaaGreatDoorQE
import Derived.Test.YtckpepfkfjdnhaaGreatDoorQS11
namespace Go.Proofs.YtckpepfkfjdnhaaGreatDoor

section
open Go.RowKit Go.Sort
variable {z : Rest}

/-- A function's value. -/
abbrev fnv (n : Nat) : Value := .func (.func n) #[] #[]
theorem info_fmt : (Tryz.prog.info? 176).map (·.size) = some 5 := by kernel_rfl
theorem ret_fmt {fn : Func} {R : Ending → World → Prop} {a : Act} {w : World} {p : Tmp} {rb : Nat} {cs : Array Value} (hf : fn.results = #[.cell p 176]) (hp : a.tmps.getD p undef = .pointer (some ⟨rb, 0, none⟩)) (hd : a.defers = [])
   (hi : cs.size = 5) (hg : w.heap[rb]? = some (.cells cs 176 (0, 0))) (hR : R (.returned (.agg cs)) w) : bodyPost Tryz.prog fn R .ret a w :=
 bodyPost_ret (results_cell_row hf _ _ rb 176 _ (0, 0) _ hp hg Tryz.underlying176 rfl (by rw [info_fmt, hi])) hd hR

set_option maxRecDepth 100000 in
set_option maxHeartbeats 400000 in
theorem each_any (n : Nat) (w : World) :
   Calls Tryz.prog 170 #[fnv n] w fun e w' => e = .returned (.func (.func 204) #[] #[.pointer (some ⟨w.heap.size, 0, none⟩)]) ∧ Below w.heap.size w w' := by
 have hmf : ∀ (fn : Fn) (first cap : Array Value) (w : World), (Instr.makeFunc fn first cap).run Tryz.prog w = .ok (.func fn first cap) w := fun _ _ _ _ => rfl
 go_enter Tryz.func170, Tryz.ntmps170
 go_wp2
 go_ret
 exact ⟨rfl, (Below.refl _ _).alloc (by simp) _⟩

abbrev fmz : Array Value := #[.nilFunc, .nilFunc, .nilFunc, .int .i64 0, .nilFunc]
theorem fm_one (a b c e : Value) (k : Int) (ha : a.oneCell' = true) (hb : b.oneCell' = true) (hc : c.oneCell' = true) (he : e.oneCell' = true) : (#[a, b, c, .int .i64 k, e] : Array Value).all (·.oneCell') = true := by
 have hk : (Value.int .i64 k).oneCell' = true := rfl
 simp [ha, hb, hc, he, hk]

set_option maxRecDepth 100000 in
set_option maxHeartbeats 1000000 in
theorem format2_any (org fmt len blk : Int) (w : World) (h0 : ¬ fmt = 0) (h1 : ¬ fmt = 1) :
   Calls Tryz.prog 125 #[.agg (dsv z org fmt len blk)] w fun e w' =>
     e = .returned (.agg #[fnv 177, fnv 178, fnv 179, .int .i64 32, fnv 176]) ∧ Below w.heap.size w w' := by
 have e0 : (fmt == 0) = false := by simp [h0]
 have e1 : (fmt == 1) = false := by simp [h1]
 have HZ := Lib.hid (two_new w (dsv z org fmt len blk) fmz 23 176)
 have HB := Lib.hid (two_below w (dsv z org fmt len blk) fmz 23 176)
 have H1 := Lib.hid (fm_one (fnv 177) (fnv 178) (fnv 179) (fnv 176) 32 rfl rfl rfl rfl)
 go_enter Tryz.func125, Tryz.ntmps125
 go_wp2_with (refine wpList_store_rowTo rfl _ _ _ rfl rfl (w.heap.size + 1) #[fnv 177, fnv 178, fnv 179, .int .i64 32, fnv 176] rfl rfl 176 fmz HZ.out (by rw [info_fmt]; rfl) rfl H1.out ?_)
 refine ret_fmt rfl rfl rfl rfl (setRow_heap _ _ _ _ _ _ HZ.out) ⟨rfl, Below.setRow HB.out (by omega) _⟩

set_option maxRecDepth 100000 in
set_option maxHeartbeats 1000000 in
theorem format0_any (org len blk : Int) (w : World) :
   Calls Tryz.prog 125 #[.agg (dsv z org 0 len blk)] w fun e w' =>
     ∃ g, e = .returned (.agg #[fnv 168, fnv 169, .func (.func 204) #[] #[.pointer (some ⟨g, 0, none⟩)], .int .i64 0, fnv 172]) ∧ Below w.heap.size w w' := by
 have HZ := Lib.hid (two_new w (dsv z org 0 len blk) fmz 23 176)
 have HB := Lib.hid (two_below w (dsv z org 0 len blk) fmz 23 176)
 go_enter Tryz.func125, Tryz.ntmps125
 go_wp2_with fail
 refine (each_any _ _).mono ?_
 rintro e w2 ⟨rfl, hb2⟩
 generalize hg : ((w.alloc (.cells (dsv z org 0 len blk) 23)).alloc (.cells fmz 176)).heap.size = G at hb2 ⊢
 have hG : w.heap.size + 1 < G := by rw [← hg]; simp
 have HZ2 := Lib.hid ((hb2.block (w.heap.size + 1) hG).trans HZ.out)
 have HB2 := Lib.hid (HB.out.trans (hb2.mono (by omega)))
 have H1 := Lib.hid (fm_one (fnv 168) (fnv 169) (.func (.func 204) #[] #[.pointer (some ⟨G, 0, none⟩)]) (fnv 172) 0 rfl rfl rfl rfl)
 clear hb2 hg hG
 go_wp2_with (refine wpList_store_rowTo rfl _ _ _ rfl rfl (w.heap.size + 1) #[fnv 168, fnv 169, .func (.func 204) #[] #[.pointer (some ⟨G, 0, none⟩)], .int .i64 0, fnv 172] rfl rfl 176 fmz HZ2.out (by rw [info_fmt]; rfl) rfl H1.out ?_)
 refine ret_fmt (cs := #[fnv 168, fnv 169, .func (.func 204) #[] #[.pointer (some ⟨G, 0, none⟩)], .int .i64 0, fnv 172]) rfl rfl rfl rfl (setRow_heap _ _ _ _ _ _ HZ2.out) ⟨_, rfl, Below.setRow HB2.out (by omega) _⟩

set_option maxRecDepth 100000 in
set_option maxHeartbeats 1000000 in
theorem format1_any (org len blk : Int) (w : World) :
   Calls Tryz.prog 125 #[.agg (dsv z org 1 len blk)] w fun e w' =>
     ∃ g, e = .returned (.agg #[fnv 173, fnv 174, .func (.func 204) #[] #[.pointer (some ⟨g, 0, none⟩)], .int .i64 0, fnv 176]) ∧ Below w.heap.size w w' := by
 have HZ := Lib.hid (two_new w (dsv z org 1 len blk) fmz 23 176)
 have HB := Lib.hid (two_below w (dsv z org 1 len blk) fmz 23 176)
 go_enter Tryz.func125, Tryz.ntmps125
 go_wp2_with fail
 refine (each_any _ _).mono ?_
 rintro e w2 ⟨rfl, hb2⟩
 generalize hg : ((w.alloc (.cells (dsv z org 1 len blk) 23)).alloc (.cells fmz 176)).heap.size = G at hb2 ⊢
 have hG : w.heap.size + 1 < G := by rw [← hg]; simp
 have HZ2 := Lib.hid ((hb2.block (w.heap.size + 1) hG).trans HZ.out)
 have HB2 := Lib.hid (HB.out.trans (hb2.mono (by omega)))
 have H1 := Lib.hid (fm_one (fnv 173) (fnv 174) (.func (.func 204) #[] #[.pointer (some ⟨G, 0, none⟩)]) (fnv 176) 0 rfl rfl rfl rfl)
 clear hb2 hg hG
 go_wp2_with (refine wpList_store_rowTo rfl _ _ _ rfl rfl (w.heap.size + 1) #[fnv 173, fnv 174, .func (.func 204) #[] #[.pointer (some ⟨G, 0, none⟩)], .int .i64 0, fnv 176] rfl rfl 176 fmz HZ2.out (by rw [info_fmt]; rfl) rfl H1.out ?_)
 refine ret_fmt (cs := #[fnv 173, fnv 174, .func (.func 204) #[] #[.pointer (some ⟨G, 0, none⟩)], .int .i64 0, fnv 176]) rfl rfl rfl rfl (setRow_heap _ _ _ _ _ _ HZ2.out) ⟨_, rfl, Below.setRow HB2.out (by omega) _⟩
end

section
open Go.RowKit Go.Sort
attribute [local go_sem] strOfNums_size

set_option maxRecDepth 100000 in
set_option maxHeartbeats 400000 in
theorem equal_any (n len : Int) (w : World) : Calls Tryz.prog 172 #[.int .i64 n, .int .i64 len] w fun e w' => e = .returned (.bool (decide (n = len))) ∧ w = w' := by
 by_cases h : n = len
 · subst h
   have H := Lib.hid (show decide (n = n) = true by simp)
   go_enter Tryz.func172, Tryz.ntmps172
   go_wp2
   go_ret
   exact ⟨by first | (rw [H.out]; rfl) | rfl, rfl⟩
 · have H := Lib.hid (show decide (n = len) = false by simp [h])
   have e0 : (n == len) = false := by simp [h]
   go_enter Tryz.func172, Tryz.ntmps172
   go_wp2
   go_ret
   exact ⟨by first | (rw [H.out]; rfl) | rfl, rfl⟩

set_option maxRecDepth 100000 in
set_option maxHeartbeats 400000 in
theorem eqclos_any (r : By) (g1 g2 : Nat) (len : Int) (w : World) (h1 : w.cell? ⟨g1, 0, none⟩ = some (fnv 172)) (h2 : w.cell? ⟨g2, 3, none⟩ = some (.int .i64 len)) :
   Calls Tryz.prog 181 #[.string ⟨r.toArray⟩, .pointer (some ⟨g1, 0, none⟩), .pointer (some ⟨g2, 0, none⟩)] w fun e w' => e = .returned (.bool (!(decide ((r.length : Int) = len)))) ∧ w = w' := by
 have HC := Lib.hid (equal_any (r.length : Int) len w)
 generalize decide ((r.length : Int) = len) = q at HC ⊢
 go_enter Tryz.func181, Tryz.ntmps181
 go_wp2_with fail
 refine HC.out.mono ?_
 rintro e w1 ⟨rfl, rfl⟩
 go_wp2
 go_ret
 exact ⟨rfl, rfl⟩

set_option maxRecDepth 100000 in
set_option maxHeartbeats 400000 in
theorem atclos_any (r : By) (g1 g2 : Nat) (len : Int) (w : World) (h1 : w.cell? ⟨g1, 0, none⟩ = some (fnv 176)) (h2 : w.cell? ⟨g2, 3, none⟩ = some (.int .i64 len)) :
   Calls Tryz.prog 181 #[.string ⟨r.toArray⟩, .pointer (some ⟨g1, 0, none⟩), .pointer (some ⟨g2, 0, none⟩)] w fun e w' => e = .returned (.bool (!(decide ((r.length : Int) ≤ len)))) ∧ w = w' := by
 have HC := Lib.hid (atmost_any (r.length : Int) len w)
 generalize decide ((r.length : Int) ≤ len) = q at HC ⊢
 go_enter Tryz.func181, Tryz.ntmps181
 go_wp2_with fail
 refine HC.out.mono ?_
 rintro e w1 ⟨rfl, rfl⟩
 go_wp2
 go_ret
 exact ⟨rfl, rfl⟩
end

section
open Go.RowKit Go.Sort
variable {z : Rest}
theorem info_fn : (Tryz.prog.info? 154).map (·.size) = some 1 := by kernel_rfl
theorem setRow_cell0 (w : World) (t : TypeId) (o v : Value) : ((w.alloc (.cells #[o] t)).setRow w.heap.size #[v]).heap[w.heap.size]? = some (.cells #[v] t (0, 0)) :=
 setRow_heap _ _ _ _ _ _ (heap_alloc_new w (.cells #[o] t))

set_option maxRecDepth 100000 in
set_option maxHeartbeats 1000000 in
theorem allowed2_any (org fmt len blk : Int) (h0 : ¬ fmt = 0) (h1 : ¬ fmt = 1) (w : World) (B : Nat) (a : Option Addr) (cap : Nat) (l : List By) (h : Strs w B a l) (hB : B ≤ w.heap.size) (hl : l.length ≤ 1000000) :
   Calls Tryz.prog 130 #[.agg (dsv z org fmt len blk), .slice a l.length cap] w fun e w' => e = .returned (.bool (!(l.any fun r => !(decide ((r.length : Int) ≤ len))))) ∧ Below w.heap.size w w' := by
 obtain ⟨q, hq⟩ : ∃ q, (l.any fun r => !(decide ((r.length : Int) ≤ len))) = q := ⟨_, rfl⟩
 rw [hq]
 have HQ := Lib.hid hq
 clear hq
 have hmf : ∀ (fn : Fn) (first cap : Array Value) (w : World), (Instr.makeFunc fn first cap).run Tryz.prog w = .ok (.func fn first cap) w := fun _ _ _ _ => rfl
 have hfd : ∀ W : World, (Instr.field 176 (.agg #[fnv 177, fnv 178, fnv 179, .int .i64 32, fnv 176]) 4).run Tryz.prog W = .ok (fnv 176) W := fun _ => by kernel_rfl
 have HF := Lib.hid (fun W => format2_any (z := z) org fmt len blk W h0 h1)
 have HB := Lib.hid (box_below w (dsv z org fmt len blk) 23)
 have HZ := Lib.hid (heap_alloc_new w (.cells (dsv z org fmt len blk) 23))
 go_enter Tryz.func130, Tryz.ntmps130
 go_wp2_with (refine wpList_load_row rfl _ _ rfl w.heap.size rfl 23 (dsv z org fmt len blk) (0, 0) _ HZ.out Tryz.underlying23 rfl (by rw [info_ds]; rfl) ?_)
 refine (HF.out _).mono ?_
 rintro e w2 ⟨rfl, hb2⟩
 go_wp2_with (refine wpList_store_oneTo rfl _ _ _ rfl rfl w2.heap.size (fnv 176) rfl rfl rfl _ .nilFunc (heap_alloc_new _ _) info_fn ?_)
 have hb3 : Below w.heap.size w w2 := HB.out.trans (hb2.mono HB.out.size)
 have hZ2 := (hb2.block w.heap.size (by simp)).trans HZ.out
 have hlt2 := lt_of_block hZ2
 have hb4 := Below.setRow (hb3.alloc hb3.size (.cells #[.nilFunc] 154)) hb3.size #[fnv 176]
 have hc1 := cell_at (i := 0) (setRow_cell0 w2 154 .nilFunc (fnv 176)) rfl
 have hZ3 : ((w2.alloc (.cells #[.nilFunc] 154)).setRow w2.heap.size #[fnv 176]).heap[w.heap.size]? = _ := (setRow_other _ w2.heap.size w.heap.size _ (by omega)).trans ((halloc w2 _ hlt2).trans hZ2)
 have hc2 := cell_at (i := 3) (v := .int .i64 len) hZ3 rfl
 have HS := Lib.hid (h.below (hb4.mono hB))
 have HB4 := Lib.hid hb4
 have HC := Lib.hid (fun r => atclos_any r w2.heap.size w.heap.size len _ hc1 hc2)
 clear hb2 hb3 hb4 hc1 hc2 hZ2 hZ3 hlt2
 refine (containsA_any _ _ (fun r => !(decide ((r.length : Int) ≤ len))) _ B a cap l HS.out hl (fun r _ => HC.out r)).mono ?_
 rintro e w4 ⟨rfl, rfl⟩
 rw [HQ.out]
 go_wp2
 go_ret
 exact ⟨rfl, HB4.out⟩

set_option maxRecDepth 100000 in
set_option maxHeartbeats 1000000 in
theorem allowed1_any (org len blk : Int) (w : World) (B : Nat) (a : Option Addr) (cap : Nat) (l : List By) (h : Strs w B a l) (hB : B ≤ w.heap.size) (hl : l.length ≤ 1000000) :
   Calls Tryz.prog 130 #[.agg (dsv z org 1 len blk), .slice a l.length cap] w fun e w' => e = .returned (.bool (!(l.any fun r => !(decide ((r.length : Int) ≤ len))))) ∧ Below w.heap.size w w' := by
 obtain ⟨q, hq⟩ : ∃ q, (l.any fun r => !(decide ((r.length : Int) ≤ len))) = q := ⟨_, rfl⟩
 rw [hq]
 have HQ := Lib.hid hq
 clear hq
 have hmf : ∀ (fn : Fn) (first cap : Array Value) (w : World), (Instr.makeFunc fn first cap).run Tryz.prog w = .ok (.func fn first cap) w := fun _ _ _ _ => rfl
 have hfd : ∀ g : Nat, ∀ W : World, (Instr.field 176 (.agg #[fnv 173, fnv 174, .func (.func 204) #[] #[.pointer (some ⟨g, 0, none⟩)], .int .i64 0, fnv 176]) 4).run Tryz.prog W = .ok (fnv 176) W := fun _ _ => by kernel_rfl
 have HF := Lib.hid (fun W => format1_any (z := z) org len blk W)
 have HB := Lib.hid (box_below w (dsv z org 1 len blk) 23)
 have HZ := Lib.hid (heap_alloc_new w (.cells (dsv z org 1 len blk) 23))
 go_enter Tryz.func130, Tryz.ntmps130
 go_wp2_with (refine wpList_load_row rfl _ _ rfl w.heap.size rfl 23 (dsv z org 1 len blk) (0, 0) _ HZ.out Tryz.underlying23 rfl (by rw [info_ds]; rfl) ?_)
 refine (HF.out _).mono ?_
 rintro e w2 ⟨g, rfl, hb2⟩
 go_wp2_with (refine wpList_store_oneTo rfl _ _ _ rfl rfl w2.heap.size (fnv 176) rfl rfl rfl _ .nilFunc (heap_alloc_new _ _) info_fn ?_)
 have hb3 : Below w.heap.size w w2 := HB.out.trans (hb2.mono HB.out.size)
 have hZ2 := (hb2.block w.heap.size (by simp)).trans HZ.out
 have hlt2 := lt_of_block hZ2
 have hb4 := Below.setRow (hb3.alloc hb3.size (.cells #[.nilFunc] 154)) hb3.size #[fnv 176]
 have hc1 := cell_at (i := 0) (setRow_cell0 w2 154 .nilFunc (fnv 176)) rfl
 have hZ3 : ((w2.alloc (.cells #[.nilFunc] 154)).setRow w2.heap.size #[fnv 176]).heap[w.heap.size]? = _ := (setRow_other _ w2.heap.size w.heap.size _ (by omega)).trans ((halloc w2 _ hlt2).trans hZ2)
 have hc2 := cell_at (i := 3) (v := .int .i64 len) hZ3 rfl
 have HS := Lib.hid (h.below (hb4.mono hB))
 have HB4 := Lib.hid hb4
 have HC := Lib.hid (fun r => atclos_any r w2.heap.size w.heap.size len _ hc1 hc2)
 clear hb2 hb3 hb4 hc1 hc2 hZ2 hZ3 hlt2
 refine (containsA_any _ _ (fun r => !(decide ((r.length : Int) ≤ len))) _ B a cap l HS.out hl (fun r _ => HC.out r)).mono ?_
 rintro e w4 ⟨rfl, rfl⟩
 rw [HQ.out]
 go_wp2
 go_ret
 exact ⟨rfl, HB4.out⟩

set_option maxRecDepth 100000 in
set_option maxHeartbeats 1000000 in
theorem allowed0_any (org len blk : Int) (w : World) (B : Nat) (a : Option Addr) (cap : Nat) (l : List By) (h : Strs w B a l) (hB : B ≤ w.heap.size) (hl : l.length ≤ 1000000) :
   Calls Tryz.prog 130 #[.agg (dsv z org 0 len blk), .slice a l.length cap] w fun e w' => e = .returned (.bool (!(l.any fun r => !(decide ((r.length : Int) = len))))) ∧ Below w.heap.size w w' := by
 obtain ⟨q, hq⟩ : ∃ q, (l.any fun r => !(decide ((r.length : Int) = len))) = q := ⟨_, rfl⟩
 rw [hq]
 have HQ := Lib.hid hq
 clear hq
 have hmf : ∀ (fn : Fn) (first cap : Array Value) (w : World), (Instr.makeFunc fn first cap).run Tryz.prog w = .ok (.func fn first cap) w := fun _ _ _ _ => rfl
 have hfd : ∀ g : Nat, ∀ W : World, (Instr.field 176 (.agg #[fnv 168, fnv 169, .func (.func 204) #[] #[.pointer (some ⟨g, 0, none⟩)], .int .i64 0, fnv 172]) 4).run Tryz.prog W = .ok (fnv 172) W := fun _ _ => by kernel_rfl
 have HF := Lib.hid (fun W => format0_any (z := z) org len blk W)
 have HB := Lib.hid (box_below w (dsv z org 0 len blk) 23)
 have HZ := Lib.hid (heap_alloc_new w (.cells (dsv z org 0 len blk) 23))
 go_enter Tryz.func130, Tryz.ntmps130
 go_wp2_with (refine wpList_load_row rfl _ _ rfl w.heap.size rfl 23 (dsv z org 0 len blk) (0, 0) _ HZ.out Tryz.underlying23 rfl (by rw [info_ds]; rfl) ?_)
 refine (HF.out _).mono ?_
 rintro e w2 ⟨g, rfl, hb2⟩
 go_wp2_with (refine wpList_store_oneTo rfl _ _ _ rfl rfl w2.heap.size (fnv 172) rfl rfl rfl _ .nilFunc (heap_alloc_new _ _) info_fn ?_)
 have hb3 : Below w.heap.size w w2 := HB.out.trans (hb2.mono HB.out.size)
 have hZ2 := (hb2.block w.heap.size (by simp)).trans HZ.out
 have hlt2 := lt_of_block hZ2
 have hb4 := Below.setRow (hb3.alloc hb3.size (.cells #[.nilFunc] 154)) hb3.size #[fnv 172]
 have hc1 := cell_at (i := 0) (setRow_cell0 w2 154 .nilFunc (fnv 172)) rfl
 have hZ3 : ((w2.alloc (.cells #[.nilFunc] 154)).setRow w2.heap.size #[fnv 172]).heap[w.heap.size]? = _ := (setRow_other _ w2.heap.size w.heap.size _ (by omega)).trans ((halloc w2 _ hlt2).trans hZ2)
 have hc2 := cell_at (i := 3) (v := .int .i64 len) hZ3 rfl
 have HS := Lib.hid (h.below (hb4.mono hB))
 have HB4 := Lib.hid hb4
 have HC := Lib.hid (fun r => eqclos_any r w2.heap.size w.heap.size len _ hc1 hc2)
 clear hb2 hb3 hb4 hc1 hc2 hZ2 hZ3 hlt2
 refine (containsA_any _ _ (fun r => !(decide ((r.length : Int) = len))) _ B a cap l HS.out hl (fun r _ => HC.out r)).mono ?_
 rintro e w4 ⟨rfl, rfl⟩
 rw [HQ.out]
 go_wp2
 go_ret
 exact ⟨rfl, HB4.out⟩
end

section
open Go.RowKit Go.Sort
variable {z : Rest}

/-- Behind the store of the format: what lies in the two rows. -/
theorem fmt_rows {w w2 : World} {cs fs : Array Value} (hb2 : Below (w.alloc (.cells cs 23)).heap.size (w.alloc (.cells cs 23)) w2) :
   ∃ W, W = (w2.alloc (.cells fmz 176)).setRow w2.heap.size fs ∧ W.heap[w.heap.size]? = some (.cells cs 23 (0, 0)) ∧ W.heap[w2.heap.size]? = some (.cells fs 176 (0, 0)) ∧ Below w.heap.size w W := by
 have HB := box_below w cs 23
 have HZ := heap_alloc_new w (.cells cs 23)
 have hb3 : Below w.heap.size w w2 := HB.trans (hb2.mono HB.size)
 have hZ2 := (hb2.block w.heap.size (by simp)).trans HZ
 have hlt2 := lt_of_block hZ2
 refine ⟨_, rfl, (setRow_other _ w2.heap.size w.heap.size _ (by omega)).trans ((halloc w2 _ hlt2).trans hZ2), setRow_heap _ _ _ _ _ _ (heap_alloc_new _ _), Below.setRow (hb3.alloc hb3.size _) hb3.size _⟩

set_option maxRecDepth 100000 in
set_option maxHeartbeats 1000000 in
theorem valid2_any (len blk : Int) (w : World) : Calls Tryz.prog 71 #[.agg (dsv z 0 2 len blk)] w fun e w' => e = .returned (.bool (spnV len blk && decide (32 ≤ blk))) ∧ Below w.heap.size w w' := by
 obtain ⟨q, hq⟩ : ∃ q, spnV len blk = q := ⟨_, rfl⟩
 rw [hq]
 have HV := Lib.hid (fun W => spn_valid len blk W)
 rw [hq] at HV
 clear hq
 have HF := Lib.hid (fun W => format2_any (z := z) 0 2 len blk W (by decide) (by decide))
 have HZ := Lib.hid (heap_alloc_new w (.cells (dsv z 0 2 len blk) 23))
 go_enter Tryz.func71, Tryz.ntmps71
 go_wp2_with (refine wpList_load_row rfl _ _ rfl w.heap.size rfl 23 (dsv z 0 2 len blk) (0, 0) _ HZ.out Tryz.underlying23 rfl (by rw [info_ds]; rfl) ?_)
 refine (HF.out _).mono ?_
 rintro e w2 ⟨rfl, hb2⟩
 have H1 := Lib.hid (fm_one (fnv 177) (fnv 178) (fnv 179) (fnv 176) 32 rfl rfl rfl rfl)
 go_wp2_with (
   refine wpList_store_rowTo rfl _ _ _ rfl rfl w2.heap.size #[fnv 177, fnv 178, fnv 179, .int .i64 32, fnv 176] rfl rfl 176 fmz (heap_alloc_new _ _) (by rw [info_fmt]; rfl) rfl H1.out ?_
   obtain ⟨W, hW, r1, r2, hb3⟩ := fmt_rows (fs := #[fnv 177, fnv 178, fnv 179, .int .i64 32, fnv 176]) hb2
   rw [← hW]
   have c1 := cell_at (i := 1) (v := .int .i64 0) r1 rfl
   have c2 := cell_at (i := 2) (v := .int .i64 2) r1 rfl
   have c3 := cell_at (i := 3) (v := .int .i64 len) r1 rfl
   have c4 := cell_at (i := 4) (v := .int .i64 blk) r1 rfl
   have c5 := cell_at (i := 0) (v := fnv 177) r2 rfl
   have c6 := cell_at (i := 3) (v := .int .i64 32) r2 rfl
   have HB3 := Lib.hid hb3
   clear hb2 hb3 r1 r2 hW HZ HF H1)
 refine (HV.out _).mono ?_
 rintro e w4 ⟨rfl, rfl⟩
 cases q
 · go_wp2
   go_ret
   exact ⟨rfl, HB3.out⟩
 · go_wp2
   go_ret
   exact ⟨rfl, HB3.out⟩

set_option maxRecDepth 100000 in
set_option maxHeartbeats 1000000 in
theorem valid1_any (len blk : Int) (w : World) : Calls Tryz.prog 71 #[.agg (dsv z 0 1 len blk)] w fun e w' => e = .returned (.bool (varV len blk && decide (0 ≤ blk))) ∧ Below w.heap.size w w' := by
 obtain ⟨q, hq⟩ : ∃ q, varV len blk = q := ⟨_, rfl⟩
 rw [hq]
 have HV := Lib.hid (fun W => var_valid len blk W)
 rw [hq] at HV
 clear hq
 have HF := Lib.hid (fun W => format1_any (z := z) 0 len blk W)
 have HZ := Lib.hid (heap_alloc_new w (.cells (dsv z 0 1 len blk) 23))
 go_enter Tryz.func71, Tryz.ntmps71
 go_wp2_with (refine wpList_load_row rfl _ _ rfl w.heap.size rfl 23 (dsv z 0 1 len blk) (0, 0) _ HZ.out Tryz.underlying23 rfl (by rw [info_ds]; rfl) ?_)
 refine (HF.out _).mono ?_
 rintro e w2 ⟨g, rfl, hb2⟩
 have H1 := Lib.hid (fm_one (fnv 173) (fnv 174) (.func (.func 204) #[] #[.pointer (some ⟨g, 0, none⟩)]) (fnv 176) 0 rfl rfl rfl rfl)
 go_wp2_with (
   refine wpList_store_rowTo rfl _ _ _ rfl rfl w2.heap.size #[fnv 173, fnv 174, .func (.func 204) #[] #[.pointer (some ⟨g, 0, none⟩)], .int .i64 0, fnv 176] rfl rfl 176 fmz (heap_alloc_new _ _) (by rw [info_fmt]; rfl) rfl H1.out ?_
   obtain ⟨W, hW, r1, r2, hb3⟩ := fmt_rows (fs := #[fnv 173, fnv 174, .func (.func 204) #[] #[.pointer (some ⟨g, 0, none⟩)], .int .i64 0, fnv 176]) hb2
   rw [← hW]
   have c1 := cell_at (i := 1) (v := .int .i64 0) r1 rfl
   have c2 := cell_at (i := 2) (v := .int .i64 1) r1 rfl
   have c3 := cell_at (i := 3) (v := .int .i64 len) r1 rfl
   have c4 := cell_at (i := 4) (v := .int .i64 blk) r1 rfl
   have c5 := cell_at (i := 0) (v := fnv 173) r2 rfl
   have c6 := cell_at (i := 3) (v := .int .i64 0) r2 rfl
   have HB3 := Lib.hid hb3
   clear hb2 hb3 r1 r2 hW HZ HF H1)
 refine (HV.out _).mono ?_
 rintro e w4 ⟨rfl, rfl⟩
 cases q
 · go_wp2
   go_ret
   exact ⟨rfl, HB3.out⟩
 · go_wp2
   go_ret
   exact ⟨rfl, HB3.out⟩

set_option maxRecDepth 100000 in
set_option maxHeartbeats 1000000 in
theorem valid0_any (len blk : Int) (w : World) : Calls Tryz.prog 71 #[.agg (dsv z 0 0 len blk)] w fun e w' => e = .returned (.bool (fixV len blk && decide (0 ≤ blk))) ∧ Below w.heap.size w w' := by
 obtain ⟨q, hq⟩ : ∃ q, fixV len blk = q := ⟨_, rfl⟩
 rw [hq]
 have HV := Lib.hid (fun W => fix_valid len blk W)
 rw [hq] at HV
 clear hq
 have HF := Lib.hid (fun W => format0_any (z := z) 0 len blk W)
 have HZ := Lib.hid (heap_alloc_new w (.cells (dsv z 0 0 len blk) 23))
 go_enter Tryz.func71, Tryz.ntmps71
 go_wp2_with (refine wpList_load_row rfl _ _ rfl w.heap.size rfl 23 (dsv z 0 0 len blk) (0, 0) _ HZ.out Tryz.underlying23 rfl (by rw [info_ds]; rfl) ?_)
 refine (HF.out _).mono ?_
 rintro e w2 ⟨g, rfl, hb2⟩
 have H1 := Lib.hid (fm_one (fnv 168) (fnv 169) (.func (.func 204) #[] #[.pointer (some ⟨g, 0, none⟩)]) (fnv 172) 0 rfl rfl rfl rfl)
 go_wp2_with (
   refine wpList_store_rowTo rfl _ _ _ rfl rfl w2.heap.size #[fnv 168, fnv 169, .func (.func 204) #[] #[.pointer (some ⟨g, 0, none⟩)], .int .i64 0, fnv 172] rfl rfl 176 fmz (heap_alloc_new _ _) (by rw [info_fmt]; rfl) rfl H1.out ?_
   obtain ⟨W, hW, r1, r2, hb3⟩ := fmt_rows (fs := #[fnv 168, fnv 169, .func (.func 204) #[] #[.pointer (some ⟨g, 0, none⟩)], .int .i64 0, fnv 172]) hb2
   rw [← hW]
   have c1 := cell_at (i := 1) (v := .int .i64 0) r1 rfl
   have c2 := cell_at (i := 2) (v := .int .i64 0) r1 rfl
   have c3 := cell_at (i := 3) (v := .int .i64 len) r1 rfl
   have c4 := cell_at (i := 4) (v := .int .i64 blk) r1 rfl
   have c5 := cell_at (i := 0) (v := fnv 168) r2 rfl
   have c6 := cell_at (i := 3) (v := .int .i64 0) r2 rfl
   have HB3 := Lib.hid hb3
   clear hb2 hb3 r1 r2 hW HZ HF H1)
 refine (HV.out _).mono ?_
 rintro e w4 ⟨rfl, rfl⟩
 cases q
 · go_wp2
   go_ret
   exact ⟨rfl, HB3.out⟩
 · go_wp2
   go_ret
   exact ⟨rfl, HB3.out⟩
end

section
open Go.RowKit Go.Sort
variable {z : Rest}

/-- The format's row, whatever the format. -/
theorem formatX_any (org fmt len blk : Int) (w : World) :
   Calls Tryz.prog 125 #[.agg (dsv z org fmt len blk)] w fun e w' =>
     ∃ f0 f1 f2 k f4, (e = .returned (.agg #[f0, f1, f2, .int .i64 k, f4]) ∧ (#[f0, f1, f2, .int .i64 k, f4] : Array Value).all (·.oneCell') = true) ∧ Below w.heap.size w w' := by
 by_cases h0 : fmt = 0
 · subst h0
   exact (format0_any (z := z) org len blk w).mono fun e w' ⟨g, he, hb⟩ => ⟨_, _, _, _, _, ⟨he, fm_one _ _ _ _ _ rfl rfl rfl rfl⟩, hb⟩
 · by_cases h1 : fmt = 1
   · subst h1
     exact (format1_any (z := z) org len blk w).mono fun e w' ⟨g, he, hb⟩ => ⟨_, _, _, _, _, ⟨he, fm_one _ _ _ _ _ rfl rfl rfl rfl⟩, hb⟩
   · exact (format2_any (z := z) org fmt len blk w h0 h1).mono fun e w' ⟨he, hb⟩ => ⟨_, _, _, _, _, ⟨he, fm_one _ _ _ _ _ rfl rfl rfl rfl⟩, hb⟩

set_option maxRecDepth 100000 in
set_option maxHeartbeats 1000000 in
theorem validN_any (org fmt len blk : Int) (hne : (org == 0) = false ∨ ((org == 0) = true ∧ ¬ 0 ≤ fmt) ∨ ((org == 0) = true ∧ 0 ≤ fmt ∧ ¬ fmt ≤ 2)) (w : World) : Calls Tryz.prog 71 #[.agg (dsv z org fmt len blk)] w fun e w' => e = .returned (.bool false) ∧ Below w.heap.size w w' := by
 have HF := Lib.hid (fun W => formatX_any (z := z) org fmt len blk W)
 have HZ := Lib.hid (heap_alloc_new w (.cells (dsv z org fmt len blk) 23))
 rcases hne with e0 | ⟨e0, h1⟩ | ⟨e0, h1, h3⟩
 all_goals
  go_enter Tryz.func71, Tryz.ntmps71
  go_wp2_with (refine wpList_load_row rfl _ _ rfl w.heap.size rfl 23 (dsv z org fmt len blk) (0, 0) _ HZ.out Tryz.underlying23 rfl (by rw [info_ds]; rfl) ?_)
  refine (HF.out _).mono ?_
  rintro e w2 ⟨f0, f1, f2, k, f4, ⟨rfl, hone⟩, hb2⟩
  have H1 := Lib.hid hone
  clear hone
  go_wp2_with (
    refine wpList_store_rowTo rfl _ _ _ rfl rfl w2.heap.size #[f0, f1, f2, .int .i64 k, f4] rfl rfl 176 fmz (heap_alloc_new _ _) (by rw [info_fmt]; rfl) rfl H1.out ?_
    obtain ⟨W, hW, r1, r2, hb3⟩ := fmt_rows (fs := #[f0, f1, f2, .int .i64 k, f4]) hb2
    rw [← hW]
    have c1 := cell_at (i := 1) (v := .int .i64 org) r1 rfl
    have c2 := cell_at (i := 2) (v := .int .i64 fmt) r1 rfl
    have HB3 := Lib.hid hb3
    clear hb2 hb3 r1 r2 hW HZ HF H1)
  go_ret
  exact ⟨rfl, HB3.out⟩

theorem valid_any (org fmt len blk : Int) (w : World) : Calls Tryz.prog 71 #[.agg (dsv z org fmt len blk)] w fun e w' => e = .returned (.bool (dsV org fmt len blk)) ∧ Below w.heap.size w w' := by
 have h0 : ∀ b : Bool, (b = true → 0 ≤ blk) → (b && decide (0 ≤ blk)) = b := fun b hb => by
   cases b
   · rfl
   · simpa using hb rfl
 by_cases ho : org = 0
 · subst ho
   by_cases h : fmt < 0 ∨ 2 < fmt
   · have e : dsV 0 fmt len blk = false := by unfold dsV; rw [if_pos rfl, if_neg (by omega), if_neg (by omega), if_neg (by omega)]
     rw [e]; exact validN_any (z := z) 0 fmt len blk (by rcases h with h | h; exact Or.inr (Or.inl ⟨rfl, by omega⟩); exact Or.inr (Or.inr ⟨rfl, by omega, by omega⟩)) w
   · have h3 : fmt = 0 ∨ fmt = 1 ∨ fmt = 2 := by omega
     rcases h3 with rfl | rfl | rfl
     · have e : dsV 0 0 len blk = (fixV len blk && decide (0 ≤ blk)) := (h0 _ (fun h => by have h : fixV len blk = true := h; unfold fixV at h; simp only [Bool.and_eq_true, decide_eq_true_eq] at h; omega)).symm
       rw [e]; exact valid0_any (z := z) len blk w
     · have e : dsV 0 1 len blk = (varV len blk && decide (0 ≤ blk)) := (h0 _ (fun h => by have h : varV len blk = true := h; unfold varV at h; simp only [Bool.and_eq_true, decide_eq_true_eq] at h; omega)).symm
       rw [e]; exact valid1_any (z := z) len blk w
     · exact valid2_any (z := z) len blk w
 · have e : dsV org fmt len blk = false := by simp [dsV, ho]
   rw [e]; exact validN_any (z := z) org fmt len blk (Or.inl (by simp [ho])) w
end

section
open Go.RowKit Go.Sort
attribute [local go_sem] ByteArray.mk_append_mk strOfNums_size ext_drop ext_take

/-- The blocks of a state of the program's loop. -/
def varFin (s : List By × By) : List By := if s.2 ≠ [] then s.1 ++ [whole s.2] else s.1
theorem varA_fin (block : Nat) (l : List By) : varA block l = varFin (l.foldl (varStepA block) ([], [])) := rfl
theorem varStepA_nil (block : Nat) (out : List By) (r : By) : varStepA block (out, []) r = (out, form r) := by simp [varStepA]
theorem varStepA_new (block : Nat) (out : List By) (s r : By) (h : s ≠ []) (h2 : block < 4 + s.length + (form r).length) : varStepA block (out, s) r = (out ++ [whole s], form r) := by
 unfold varStepA; rw [if_pos ⟨h, h2⟩]
theorem varStepA_old (block : Nat) (out : List By) (s r : By) (h2 : ¬ block < 4 + s.length + (form r).length) : varStepA block (out, s) r = (out, s ++ form r) := by
 unfold varStepA; rw [if_neg (fun h => h2 h.2)]

/-- What the second loop of Pack holds. -/
structure VarSt (w : World) (blk : Nat) (l V : List By) (W : World) (j : Nat) (out : List By) (s : By) (v : Value) : Prop where
 bel : Below w.heap.size w W
 own : W.ownsRow w.heap.size 9 1 v out.length (out.map sv)
 tot : V = varFin ((l.drop j).foldl (varStepA blk) (out, s))
 room : 4 + s.length ≤ blk
 few : out.length ≤ j

set_option maxRecDepth 100000 in
set_option maxHeartbeats 4000000 in
theorem vpack_any (w : World) (B : Nat) (a : Option Addr) (cap : Nat) (l : List By) (len blk : Nat) (h : Strs w B a l) (hB : B ≤ w.heap.size) (hl : l.length ≤ 1000) (hv : varV len blk = true) (hk : ∀ r ∈ l, r.length ≤ len) :
   Calls Tryz.prog 174 #[.int .i64 len, .int .i64 blk, .slice a l.length cap] w fun e w' =>
     ∃ v, e = .returned (.tuple #[v, .int .i64 0]) ∧ w'.ownsRow w.heap.size 9 1 v (varA blk l).length ((varA blk l).map sv) ∧ Below w.heap.size w w' := by
 have hbd : 1 ≤ (len : Int) ∧ (len : Int) ≤ 1000 ∧ (len : Int) + 8 ≤ blk ∧ (blk : Int) ≤ 1024 := by simp [varV] at hv; omega
 obtain ⟨d1, d2, d3, d4⟩ := hbd
 have HV := Lib.hid hv
 clear hv
 obtain ⟨i0, hi0, hz0, hz1, hz2⟩ := info_parts info9
 have hT0 := varA_fin blk l
 generalize varA blk l = V at hT0 ⊢
 have HT0 := Lib.hid hT0
 clear hT0
 go_enter Tryz.func174, Tryz.ntmps174
 go_wp2_with fail
 refine (var_valid _ _ _).mono ?_
 rintro e w1 ⟨rfl, rfl⟩
 rw [HV.out]
 go_wp2_with fail
 go_loop [9, 21] (fun _ k => ∃ j : Nat, j ≤ l.length ∧ k = .int .i64 j) (fun _ k => l.length - (intOf k).toNat)
 case atStart => exact ⟨0, by omega, rfl⟩
 case round =>
   obtain ⟨j, hj, rfl⟩ := hrel
   by_cases hlt : j < l.length
   · obtain ⟨b, off, rfl, hbb, hc⟩ := h.get hlt
     have hkk := hk _ (List.getElem_mem hlt)
     generalize l[j] = r at hc hkk
     have hle : (r.length : Int) ≤ (len : Int) := by omega
     go_wp2
     go_round
     case rel => exact ⟨j + 1, by omega, by go_num⟩
     case measure => simp [intOf]; omega
   · have HS := Lib.hid (show VarSt w blk l V w 0 [] [] (.slice none 0 0) from ⟨Below.refl _ _, own_nil _ _ _ _, HT0.out, by simp; omega, Nat.le_refl _⟩)
     clear HT0
     go_wp2_with fail
     go_loopw [10, 11, 13, 14, 32] (fun o fm _ _ k wr => ∃ j out s, j ≤ l.length ∧ k = .int .i64 (j : Nat) ∧ fm = .string ⟨s.toArray⟩ ∧ VarSt w blk l V wr j out s o) (fun _ _ _ _ k _ => l.length - (intOf k).toNat)
     case atStart => exact ⟨0, [], [], by omega, rfl, rfl, HS.out⟩
     case round =>
       clear HS
       obtain ⟨j, out, s, hj, rfl, rfl, hS⟩ := hrel
       have hroom := hS.room
       have hfew := hS.few
       have hol : out.length ≤ 1000 := by omega
       have HO := Lib.hid hS.own
       have HB := Lib.hid hS.bel
       by_cases hlt : j < l.length
       · obtain ⟨b, off, rfl, hbb, hc⟩ := (h.below (hS.bel.mono hB)).get hlt
         have hkk := hk _ (List.getElem_mem hlt)
         have htot := hS.tot
         rw [List.drop_eq_getElem_cons hlt, List.foldl_cons] at htot
         have hfl := form_length l[j]
         have hf := fun W => form_any l[j] W (by omega)
         clear hS
         generalize l[j] = r at hc hkk htot hfl hf
         by_cases hs : s = []
         · subst hs
           rw [varStepA_nil] at htot
           generalize form r = f at htot hfl hf
           have HF := Lib.hid hf
           have HT := Lib.hid htot
           clear hf htot
           go_wp2_with fail
           refine (HF.out _).mono ?_
           rintro e w1 ⟨rfl, hb1⟩
           have HZ := Lib.hid (show VarSt w blk l V w1 (j + 1) out f _ from ⟨HB.out.trans (hb1.mono HB.out.size), own_below HO.out hb1, HT.out, by omega, by omega⟩)
           clear hb1
           go_wp2
           go_roundw
           case rel => exact ⟨j + 1, out, f, by omega, by go_num, rfl, HZ.out⟩
           case measure => simp [intOf]; omega
         · have hne : (!s.isEmpty) = true := by cases s <;> simp at hs ⊢
           by_cases hgt : blk < 4 + s.length + (form r).length
           · rw [varStepA_new _ _ _ _ hs hgt] at htot
             generalize form r = f at htot hfl hf hgt
             have hw := fun W => whole_any s W (by omega)
             generalize whole s = ws at hw htot
             have h6 : (blk : Int) < 4 + (s.length : Int) + (f.length : Int) := by omega
             have HF := Lib.hid hf
             have HW := Lib.hid hw
             have HT := Lib.hid htot
             clear hf htot hw
             go_wp2_with fail
             refine (HF.out _).mono ?_
             rintro e w1 ⟨rfl, hb1⟩
             have hown1 := own_below HO.out hb1
             have HB1 := Lib.hid (HB.out.trans (hb1.mono HB.out.size))
             clear hb1
             go_wp2_with fail
             refine (HW.out _).mono ?_
             rintro e w2 ⟨rfl, hb2⟩
             have hown2 := own_below hown1 hb2
             have HB2 := Lib.hid (HB1.out.trans (hb2.mono HB1.out.size))
             clear hb2 hown1
             go_wp2_with (at_builtin; go_must (refine wpList_append_own _ rfl _ _ 83 rfl w.heap.size 9 i0 (.string ByteArray.empty) 1 16 Tryz.underlying83 hi0 hz0 hz1 hz2 rfl (by decide) _ _ _ rfl (hown2.alloc _) _ 1 1 [.string ⟨ws.toArray⟩] rfl rfl ?e11 ?e21 ?e31 ?e41 ?e51 ?_))
             case e11 => exact news_at (cs := #[.string ⟨ws.toArray⟩]) (heap_alloc_new _ _)
             case e21 => simp [Value.oneCell']
             case e31 => unfold maxLen; (try simp); omega
             case e41 => (try simp); omega
             case e51 => have := HB2.out.size; simp at this ⊢; omega
             intro v6 w6 hown6 hg6 _
             have hbA := HB2.out.alloc HB2.out.size (.cells #[.string ⟨ws.toArray⟩] 9)
             have hb6 := hbA.grown hg6 hbA.size (fun k hk => row_own hown2 hk)
             have hown7 : w6.ownsRow w.heap.size 9 1 v6 (out ++ [ws]).length ((out ++ [ws]).map sv) := by simpa [sv] using hown6
             have HZ := Lib.hid (show VarSt w blk l V w6 (j + 1) (out ++ [ws]) f v6 from ⟨hb6, hown7, HT.out, by omega, by simp; omega⟩)
             clear hown2 hown6 hown7 hg6 hbA hb6
             go_wp2
             go_roundw
             case rel => exact ⟨j + 1, _, f, by omega, by go_num, rfl, HZ.out⟩
             case measure => simp [intOf]; omega
           · rw [varStepA_old _ _ _ _ hgt] at htot
             generalize form r = f at htot hfl hf hgt
             have h6 : ¬ (blk : Int) < 4 + (s.length : Int) + (f.length : Int) := by omega
             have n1 : ¬ 9223372036854775807 < s.length + f.length := by omega
             have HF := Lib.hid hf
             have HT := Lib.hid htot
             clear hf htot
             go_wp2_with fail
             refine (HF.out _).mono ?_
             rintro e w1 ⟨rfl, hb1⟩
             have HZ := Lib.hid (show VarSt w blk l V w1 (j + 1) out (s ++ f) _ from ⟨HB.out.trans (hb1.mono HB.out.size), own_below HO.out hb1, HT.out, by simp; omega, by omega⟩)
             clear hb1
             go_wp2
             go_roundw
             case rel => exact ⟨j + 1, out, s ++ f, by omega, by go_num, by simp, HZ.out⟩
             case measure => simp [intOf]; omega
       · have htot := hS.tot
         rw [List.drop_eq_nil_of_le (by omega), List.foldl_nil] at htot
         clear hS
         by_cases hs : s = []
         · subst hs
           have hV : V = out := by simpa [varFin] using htot
           have HT := Lib.hid hV
           clear htot hV
           go_wp2_with fail
           go_ret2
           rw [HT.out]
           exact ⟨_, rfl, HO.out, HB.out⟩
         · have hne : (!s.isEmpty) = true := by cases s <;> simp at hs ⊢
           have hV : V = out ++ [whole s] := by rw [htot]; unfold varFin; rw [if_pos hs]
           have hw := fun W => whole_any s W (by omega)
           generalize whole s = ws at hw hV
           have HT := Lib.hid hV
           have HW := Lib.hid hw
           clear htot hV hw
           go_wp2_with fail
           refine (HW.out _).mono ?_
           rintro e w2 ⟨rfl, hb2⟩
           have hown2 := own_below HO.out hb2
           have HB2 := Lib.hid (HB.out.trans (hb2.mono HB.out.size))
           clear hb2
           go_wp2_with (at_builtin; go_must (refine wpList_append_own _ rfl _ _ 83 rfl w.heap.size 9 i0 (.string ByteArray.empty) 1 16 Tryz.underlying83 hi0 hz0 hz1 hz2 rfl (by decide) _ _ _ rfl (hown2.alloc _) _ 1 1 [.string ⟨ws.toArray⟩] rfl rfl ?e12 ?e22 ?e32 ?e42 ?e52 ?_))
           case e12 => exact news_at (cs := #[.string ⟨ws.toArray⟩]) (heap_alloc_new _ _)
           case e22 => simp [Value.oneCell']
           case e32 => unfold maxLen; (try simp); omega
           case e42 => (try simp); omega
           case e52 => have := HB2.out.size; simp at this ⊢; omega
           intro v6 w6 hown6 hg6 _
           have hbA := HB2.out.alloc HB2.out.size (.cells #[.string ⟨ws.toArray⟩] 9)
           have hb6 := hbA.grown hg6 hbA.size (fun k hk => row_own hown2 hk)
           have hown7 : w6.ownsRow w.heap.size 9 1 v6 (out ++ [ws]).length ((out ++ [ws]).map sv) := by simpa [sv] using hown6
           have HO7 := Lib.hid hown7
           have HB7 := Lib.hid hb6
           clear hown2 hown6 hown7 hg6 hbA hb6
           go_wp2
           go_ret2
           rw [HT.out]
           exact ⟨_, rfl, HO7.out, HB7.out⟩
end

end Go.Proofs.YtckpepfkfjdnhaaGreatDoor

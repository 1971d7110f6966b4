/-
  Walks: the blocks of records of a description, by the reference. Conditions: valid sizes, at most 900 records.
-/
import Derived.Test.YthkpcalopmddpaaDoorS23
import Derived.Test.YthkpcalopmddpaaDoorS27
import Derived.Test.YthkpcalopmddpaaDoorS30
namespace Go.Proofs.YthkpcalopmddpaaDoor
open Go.RowKit Go.Sort

/-- PackPost by its results. -/
structure PackVal (w : World) (ok : Bool) (V : List By) (v : Value) (k : Int) (w' : World) : Prop where
  good : ok = true → k = 0 ∧ w'.ownsRow w.heap.size 9 1 v V.length (V.map sv)
  bad : ok = false → k = 2 ∧ v = .slice none 0 0
  bel : Below w.heap.size w w'
theorem PackPost.val {w w' : World} {ok : Bool} {V : List By} {e : Ending} (h : PackPost w ok V e w') : ∃ v k, e = .returned (.tuple #[v, .int .i64 k]) ∧ PackVal w ok V v k w' := by
  cases ok
  · exact ⟨_, _, h.bad rfl, (fun h => by cases h), fun _ => ⟨rfl, rfl⟩, h.bel⟩
  · obtain ⟨v, he, ho⟩ := h.good rfl
    exact ⟨_, _, he, fun _ => ⟨rfl, ho⟩, (fun h => by cases h), h.bel⟩
theorem PackVal.post {w w' : World} {ok : Bool} {V : List By} {v : Value} {k : Int} (h : PackVal w ok V v k w') : PackPost w ok V (.returned (.tuple #[v, .int .i64 k])) w' :=
  ⟨fun e => ⟨v, by rw [(h.good e).1], (h.good e).2⟩, fun e => by rw [(h.bad e).1, (h.bad e).2], h.bel⟩
theorem PackVal.from {w w1 w' : World} {ok : Bool} {V : List By} {v : Value} {k : Int} (h : PackVal w1 ok V v k w') (hb : Below w.heap.size w w1) : PackVal w ok V v k w' :=
  ⟨fun e => ⟨(h.good e).1, own_mono (h.good e).2 hb.size⟩, h.bad, hb.trans (h.bel.mono hb.size)⟩

set_option maxRecDepth 100000 in
set_option maxHeartbeats 1000000 in
theorem rpack0_any (org : Int) (len blk : Nat) (w : World) (B : Nat) (a : Option Addr) (cap : Nat) (l : List By) (h : Strs w B a l) (hB : B ≤ w.heap.size) (hl : l.length ≤ 900) (hv : fixV len blk = true) :
    Calls Tryd.prog 36 #[.agg (dsv org 0 len blk), .slice a l.length cap] w fun e w' => PackPost w (l.all fun r => decide (r.length = len)) (fixB (blk / len) l) e w' := by
  obtain ⟨ok, hok⟩ : ∃ ok, (l.all fun r => decide (r.length = len)) = ok := ⟨_, rfl⟩
  have HB := Lib.hid (box_below w (dsv org 0 len blk) 28)
  have hZ := heap_alloc_new w (.cells (dsv org 0 len blk) 28)
  have c2 := cell_at (i := 2) (v := .int .i64 0) hZ rfl
  have c3 := cell_at (i := 3) (v := .int .i64 len) hZ rfl
  have c4 := cell_at (i := 4) (v := .int .i64 blk) hZ rfl
  have HP := Lib.hid (rfpack_any (w.alloc (.cells (dsv org 0 len blk) 28)) B a cap l len blk (h.below (HB.out.mono hB)) (by simp; omega) (by omega) hv)
  rw [hok] at HP ⊢
  generalize (fixB (blk / len) l) = V at HP ⊢
  clear hok hv hZ
  go_enter Tryd.func36, Tryd.ntmps36
  go_wp2_with fail
  refine HP.out.mono ?_
  rintro e w1 hP
  obtain ⟨v, k, rfl, hV⟩ := hP.val
  have HV := Lib.hid (hV.from HB.out)
  clear hP hV
  go_wp2
  go_ret2
  exact HV.out.post

set_option maxRecDepth 100000 in
set_option maxHeartbeats 1000000 in
theorem rpack1_any (org : Int) (len blk : Nat) (w : World) (B : Nat) (a : Option Addr) (cap : Nat) (l : List By) (h : Strs w B a l) (hB : B ≤ w.heap.size) (hl : l.length ≤ 900) (hv : varV len blk = true) :
    Calls Tryd.prog 36 #[.agg (dsv org 1 len blk), .slice a l.length cap] w fun e w' => PackPost w (l.all fun r => decide (r.length ≤ len)) (varB blk l) e w' := by
  obtain ⟨ok, hok⟩ : ∃ ok, (l.all fun r => decide (r.length ≤ len)) = ok := ⟨_, rfl⟩
  have HB := Lib.hid (box_below w (dsv org 1 len blk) 28)
  have hZ := heap_alloc_new w (.cells (dsv org 1 len blk) 28)
  have c2 := cell_at (i := 2) (v := .int .i64 1) hZ rfl
  have c3 := cell_at (i := 3) (v := .int .i64 len) hZ rfl
  have c4 := cell_at (i := 4) (v := .int .i64 blk) hZ rfl
  have HP := Lib.hid (rvpack_any (w.alloc (.cells (dsv org 1 len blk) 28)) B a cap l len blk (h.below (HB.out.mono hB)) (by simp; omega) (by omega) hv)
  rw [hok] at HP ⊢
  generalize (varB blk l) = V at HP ⊢
  clear hok hv hZ
  go_enter Tryd.func36, Tryd.ntmps36
  go_wp2_with fail
  refine HP.out.mono ?_
  rintro e w1 hP
  obtain ⟨v, k, rfl, hV⟩ := hP.val
  have HV := Lib.hid (hV.from HB.out)
  clear hP hV
  go_wp2
  go_ret2
  exact HV.out.post

set_option maxRecDepth 100000 in
set_option maxHeartbeats 1000000 in
theorem rpack2_any (org fmt : Int) (len blk : Nat) (h0 : ¬ fmt = 0) (h1 : ¬ fmt = 1) (w : World) (B : Nat) (a : Option Addr) (cap : Nat) (l : List By) (h : Strs w B a l) (hB : B ≤ w.heap.size) (hl : l.length ≤ 900) (hv : spnV len blk = true) :
    Calls Tryd.prog 36 #[.agg (dsv org fmt len blk), .slice a l.length cap] w fun e w' => PackPost w (l.all fun r => decide (r.length ≤ len)) (spanA blk l) e w' := by
  obtain ⟨ok, hok⟩ : ∃ ok, (l.all fun r => decide (r.length ≤ len)) = ok := ⟨_, rfl⟩
  have HB := Lib.hid (box_below w (dsv org fmt len blk) 28)
  have hZ := heap_alloc_new w (.cells (dsv org fmt len blk) 28)
  have c2 := cell_at (i := 2) (v := .int .i64 fmt) hZ rfl
  have c3 := cell_at (i := 3) (v := .int .i64 len) hZ rfl
  have c4 := cell_at (i := 4) (v := .int .i64 blk) hZ rfl
  have HP := Lib.hid (rspack_any (w.alloc (.cells (dsv org fmt len blk) 28)) B a cap l len blk (h.below (HB.out.mono hB)) (by simp; omega) (by omega) hv)
  rw [hok] at HP ⊢
  generalize (spanA blk l) = V at HP ⊢
  have e0 : (fmt == 0) = false := by simp [h0]
  have e1 : (fmt == 1) = false := by simp [h1]
  clear h0 h1
  clear hok hv hZ
  go_enter Tryd.func36, Tryd.ntmps36
  go_wp2_with fail
  refine HP.out.mono ?_
  rintro e w1 hP
  obtain ⟨v, k, rfl, hV⟩ := hP.val
  have HV := Lib.hid (hV.from HB.out)
  clear hP hV
  go_wp2
  go_ret2
  exact HV.out.post

end Go.Proofs.YthkpcalopmddpaaDoor

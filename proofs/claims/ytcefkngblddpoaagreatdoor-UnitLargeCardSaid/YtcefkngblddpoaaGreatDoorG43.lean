/-
  Walk: the description of a data set and those of its alternate indexes, by the law's base. Condition: the contents lie in memory.
  Walks: whether a description is one of a base; whether it stands alone with no alternate index. No condition.
  Walks: the checks of a change of a base, as closures. Condition: what they capture lies in memory.
  Walks: the checks of a change of a base, as closures. Condition: what they capture lies in memory.
  Walk: the key of a put into a keyed data set is filled in. Condition: the change lies in memory.
  Walk: the checks of a keyed base, a map of closures. No condition.
  Walk: whether a put is a change of a keyed base. Condition: the description is valid.
  Walks: the checks of an entry-sequenced and of another base; a loop over no alternate index. No condition.
  Walks: the checks of a relative base that ask for a slot. Condition: what they capture lies in memory; the texts are not too long.
  Walks: whether a change is one of a base, by organisation and kind. Condition: none but lengths.
  Plain: alternate indexes and what a change of a base does to them. No walk.
  Walks: what alternate indexes and their bases are like. No condition but the bound of a length.
  Walks: whether a description is one of an alternate index of a base; the alternate key of a record. Condition: the record is not too long.
-/
import Derived.Test.YtcefkngblddpoaaGreatDoorG42
import Derived.Test.YtcefkngblddpoaaGreatDoorG19
import Derived.Test.YtcefkngblddpoaaGreatDoorG8
import Derived.Test.YtcefkngblddpoaaGreatDoorG9
import Derived.Lib.QuietBelow
import Derived.BigQuiet
namespace Go.Proofs.YtcefkngblddpoaaGreatDoor

section
set_option maxRecDepth 100000
set_option maxHeartbeats 8000000
set_option linter.unusedSimpArgs false
set_option linter.unusedVariables false
open Go.RowKit Go.Sort
theorem put_co50 (w : World) (x : Co) : ∃ W, (storeCo ⟨w.heap.size, 0, none⟩ (.agg x.cs)).run Tryz.prog (w.alloc (.cells conZ 48)) = .ok () W ∧ W.heap[w.heap.size]? = some (.cells x.cs 48 (0, 0)) ∧ Below w.heap.size w W := by
 have hz := heap_alloc_new w (.cells conZ 48)
 exact ⟨_, storeCo_at hz rfl rfl one_con, setRow_heap _ _ _ _ _ _ hz, below_setRow (box_below0 w conZ 48) (Nat.le_refl _) _⟩
/-- The content with an Id. -/
def setOf (id : Int) (cs : List Co) : Option Co := cs.find? fun x => decide (x.z.id = id)
/-- What base.Set returns. -/
def SetR (id : Int) (cs : List Co) (base : Nat) (e : Ending) (w' : World) : Prop := match setOf id cs with
 | some x => ∃ v, e = .returned (.tuple #[.agg (dsE x), v, .int .i64 0]) ∧ DsRow w' base v (altsP id cs)
 | none => e = .returned (.tuple #[.agg dsZ, .slice none 0 0, .int .i64 6])
theorem setOf_at {id : Int} {cs : List Co} {j : Nat} (hj : j < cs.length) (h : ∀ x ∈ cs.take j, x.z.id ≠ id) (he : cs[j].z.id = id) : setOf id cs = some cs[j] := by
 unfold setOf
 have e1 : cs = cs.take j ++ cs[j] :: cs.drop (j + 1) := by rw [← List.drop_eq_getElem_cons hj, List.take_append_drop]
 generalize cs[j] = y at *
 rw [e1, List.find?_append, List.find?_eq_none.2 (fun x hx => by simpa using h x hx)]
 simp [he]
theorem setOf_none {id : Int} {cs : List Co} (h : ∀ x ∈ cs, x.z.id ≠ id) : setOf id cs = none := List.find?_eq_none.2 (fun x hx => by simpa using h x hx)
section
attribute [local go_sem ↓] loadDs_down storeDs_down loadCo_down storeCo_down
theorem bset_w (w : World) (F : List Nat) (p : Nat) (cs : List Co) (id : Int) (h : BsAt w F (.sets p cs)) :
 Calls Tryz.prog 18 #[.pointer (some ⟨p, 0, none⟩), .int .i64 id] w fun e w' => SetR id cs w.heap.size e w' ∧ Below w.heap.size w w' := by
 obtain ⟨G, a, cap, h1, h2, h3, h4, h5⟩ := h
 have HC := Lib.hid (h2.cons (fun x hx => (h3 x (by simp [hx])).2))
 have HLC := Lib.hid h4
 have hb0 := box_below0 w dsZ 45
 have hz0 := heap_alloc_new w (.cells dsZ 45)
 have hc0 := cell_at (i := 0) (v := .slice a cs.length cap) h1 rfl
 have c0 := (hb0.cell (p := ⟨p, 0, none⟩) (block_lt_of_cell hc0)).trans hc0
 have HC0 := Lib.hid hc0
 have HB0 := Lib.hid hb0
 have HZ0 := Lib.hid hz0
 clear h1 h2 h3 h4 h5 hb0 hz0 hc0
 go_enter Tryz.func18, Tryz.ntmps18
 go_wp2_with fail
 clear c0
 go_loopw [14] (fun t wr => ∃ j : Nat, j ≤ cs.length ∧ t = .int .i64 j ∧ (∀ x ∈ cs.take j, x.z.id ≠ id) ∧ wr.heap[w.heap.size]? = some (.cells dsZ 45 (0, 0)) ∧ Below w.heap.size w wr) (fun t _ => cs.length - (intOf t).toNat)
 case atStart => exact ⟨0, by omega, rfl, fun x hx => by simp at hx, HZ0.out, HB0.out⟩
 case round =>
  obtain ⟨j, hj, rfl, hno, hz, hb⟩ := hrel
  have HB := Lib.hid hb
  have HZ := Lib.hid hz
  have HNO := Lib.hid hno
  have hn5 := HLC.out
  by_cases hlt : j < cs.length
  · have hltI : (j : Int) < (cs.length : Int) := by omega
    obtain ⟨b, off, rfl, hbB, hat⟩ := HC.out.get hlt
    have hat2 := hat.below hb hbB
    have ld := hat2.load
    have ldx := (hat2.below (box_below0 wr conZ 48) (Nat.lt_of_lt_of_le hbB hb.size)).load
    obtain ⟨W2, hst, hz2, hb2⟩ := put_co50 wr cs[j]
    have e0 := cell_at (i := 0) (v := .int .i64 cs[j].z.id) hz2 rfl
    have HG := Lib.hid hz2
    have HB2 := Lib.hid (hb.trans (hb2.mono hb.size))
    have HZ2 := Lib.hid (heap_below hb2 (lt_of_block hz) hz)
    have HWR := Lib.hid (lt_of_block hz)
    by_cases he : cs[j].z.id = id
    · have HS := Lib.hid (setOf_at hlt hno he)
      have hcw := (HB2.out.cell (p := ⟨p, 0, none⟩) (block_lt_of_cell HC0.out)).trans HC0.out
      have HCW := Lib.hid (fun (V : World) (hv : Below w.heap.size w V) => (HC.out.below hv).mono hv.size)
      generalize cs[j] = x at *
      have ge : ((x.z.id : Int) == id) = true := by simpa using he
      have HF := Lib.hid (fun (V : World) (hv : Below w.heap.size w V) (hg : V.heap[wr.heap.size]? = some (.cells x.cs 48 (0, 0))) => And.intro ((hv.cell (p := ⟨p, 0, none⟩) (block_lt_of_cell HC0.out)).trans HC0.out) (loadDs_con hg))
      clear he hno hz hb hat hat2 hbB hz2 hb2
      go_upto_region 5 with fail
      clear ld ldx hst e0 ge
      refine wp_region_held_drew (S := fun V => V.cell? ⟨p, 0, none⟩ = some (.slice (some ⟨b, off, none⟩) cs.length cap) ∧ (loadDs ⟨wr.heap.size, 0, none⟩).run Tryz.prog V = .ok (.agg (dsE x)) V) (by kernel_rfl) (HF.out W2.drew (HB2.out.trans ((below_drewN (Below.refl W2.heap.size W2) 1).mono HB2.out.size)) HG.out) (fun hHeld => ?_)
      refine tk 0 (.pointer (some ⟨wr.heap.size, 0, none⟩)) 23 ?_
      refine tk 1 (.agg (dsE x)) 24 ?_
      refine tk 2 (.pointer (some ⟨p, 0, none⟩)) 25 ?_
      refine tk 3 (.pointer (some ⟨p, 0, none⟩)) 26 ?_
      refine tk 4 (.pointer (some ⟨p, 0, none⟩)) 27 ?_
      refine tk 5 (.slice (some ⟨b, off, none⟩) cs.length cap) 28 ?_
      refine tk 6 (.int .i64 id) 29 ?_
      refine rd1 7 fun K hK => ?_
      go_simp
      have hbd : Below w.heap.size w W2.drew := HB2.out.trans ((below_drewN (Below.refl W2.heap.size W2) 1).mono HB2.out.size)
      refine (alts_w W2.drew w.heap.size (some ⟨b, off, none⟩) cap cs id (HC.out.below hbd) hbd.size (by have := HLC.out; omega)).mono ?_
      rintro e V1 ⟨v, rfl, hr, hbq⟩
      have hb1 : Below w.heap.size w V1 := hbd.trans (hbq.mono hbd.size)
      have hg1 : V1.heap[wr.heap.size]? = some (.cells x.cs 48 (0, 0)) := heap_below hbq (lt_of_block HG.out) HG.out
      have hz1 : V1.heap[w.heap.size]? = some (.cells dsZ 45 (0, 0)) := heap_below hbq (lt_of_block HZ2.out) HZ2.out
      have hst := storeDs_at (z := x.z) (org := x.org) (fmt := x.fmt) (len := x.len) (blk := x.blk) hz1 rfl
      have hz3 := setRow_heap _ _ _ (dsE x) _ _ hz1
      have hb3 := below_setRow (g := w.heap.size) hb1 (Nat.le_refl _) (dsE x)
      have hg3 : (V1.setRow w.heap.size (dsE x)).heap[wr.heap.size]? = some (.cells x.cs 48 (0, 0)) := by rw [setRow_other _ _ _ _ (by have := HWR.out; omega)]; exact hg1
      have hr3 : DsRow (V1.setRow w.heap.size (dsE x)) w.heap.size v (altsP id cs) := RowE.mono (RowE.only hr ((Only.refl [w.heap.size] V1).setRow (g := w.heap.size) (Or.inl (by simp)) (dsE x)) (fun k hk hm => by
       have q1 := row_own hr hk
       have q2 : wr.heap.size < W2.drew.heap.size := lt_of_block HG.out
       have q3 := HWR.out
       rw [List.mem_singleton] at hm
       omega)) (show w.heap.size ≤ W2.drew.heap.size from hbd.size)
      obtain ⟨V3, hV3⟩ : ∃ X, X = V1.setRow w.heap.size (dsE x) := ⟨_, rfl⟩
      rw [← hV3] at hst hz3 hb3 hg3 hr3
      have HZ3 := Lib.hid hz3
      have HB3 := Lib.hid hb3
      have HG3 := Lib.hid hg3
      have HR3 := Lib.hid hr3
      have hf1 := HF.out V1 hb1 hg1
      clear hr hbq hz1 hz3 hb3 hg3 hr3 hV3 hbd hb1 hg1
      refine hK.out _ _ hf1 (fun hHeld => ?_)
      clear hf1 hK K
      try simp only [lay]
      refine rd1 8 fun K hK => ?_
      go_simp
      (try go_wp2_with fail)
      refine hK.out _ _ (HF.out V3 HB3.out HG3.out) (fun hHeld => ?_)
      clear hK K
      try simp only [lay]
      refine tk 9 (v) 5 ?_
      refine tk 10 (.int .i64 0) 6 ?_
      refine wpAnyH_done (by kernel_rfl) ?_ _
      clear hst hcw
      go_wp2_with fail
      exact ret_ds3 rfl rfl rfl rfl rfl rfl HZ3.out ⟨by unfold SetR; rw [HS.out]; exact ⟨v, rfl, HR3.out⟩, HB3.out⟩
    · have ge : ((cs[j].z.id : Int) == id) = false := by simpa using he
      have HNO2 := Lib.hid (show ∀ x ∈ cs.take (j + 1), x.z.id ≠ id from fun x hx => by
       rw [tk_snoc cs j hlt] at hx
       rcases List.mem_append.1 hx with q | q
       · exact HNO.out x q
       · rw [List.mem_singleton] at q; rw [q]; exact he)
      generalize cs[j] = x at *
      clear he hno hz hb hat hat2 hbB hz2 hb2
      go_wp2_with fail
      clear ld ldx hst e0 ge
      go_roundw
      case rel => exact ⟨j + 1, by omega, by go_num, HNO2.out, HZ2.out, HB2.out⟩
      case measure => (simp [intOf]) <;> omega
  · have hltI : ¬ (j : Int) < (cs.length : Int) := by omega
    have HS := Lib.hid (setOf_none (id := id) (cs := cs) (by have := HNO.out; rwa [List.take_of_length_le (by omega)] at this))
    have hst : (storeDs ⟨w.heap.size, 0, none⟩ (.agg dsZ)).run Tryz.prog wr = .ok () (wr.setRow w.heap.size dsZ) := storeDs_at (z := ⟨0, 0, 0, 0, 0, 0, 0, 0, 0, 0, false, 0, [], [], 0, 0, false⟩) (org := 0) (fmt := 0) (len := 0) (blk := 0) HZ.out rfl
    have hz3 := setRow_heap _ _ _ dsZ _ _ HZ.out
    have hb3 := below_setRow (g := w.heap.size) HB.out (Nat.le_refl _) dsZ
    obtain ⟨V3, hV3⟩ : ∃ X, X = wr.setRow w.heap.size dsZ := ⟨_, rfl⟩
    rw [← hV3] at hst hz3 hb3
    have HZ3 := Lib.hid hz3
    have HB3 := Lib.hid hb3
    clear hlt hno hz hb hz3 hb3 hV3
    go_wp2_with fail
    exact ret_ds3 rfl rfl rfl rfl rfl rfl HZ3.out ⟨by unfold SetR; rw [HS.out]; rfl, HB3.out⟩
end
end

section
set_option maxRecDepth 100000
set_option maxHeartbeats 4000000
set_option linter.unusedSimpArgs false
set_option linter.unusedVariables false
open Go.RowKit Go.Sort
def isBaseP (z : Rest) (org fmt len blk : Int) : Bool := kvalP z org fmt len blk && (decide (1 ≤ z.id) && (decide (z.id ≤ 1099511627776) && (z.base == 0)))
section
attribute [local go_sem ↓] loadDs_down storeDs_down
theorem isBase_w (w : World) (z : Rest) (org fmt len blk : Int) : Calls Tryz.prog 219 #[.agg (dsv z org fmt len blk)] w fun e w' => e = .returned (.bool (isBaseP z org fmt len blk)) ∧ Below w.heap.size w w' := by
 obtain ⟨w0, hw0⟩ : ∃ w0, w0 = w.alloc (.cells (dsv z org fmt len blk) 45) := ⟨_, rfl⟩
 have hx : w0.heap[w.heap.size]? = some (.cells (dsv z org fmt len blk) 45 (0, 0)) := by rw [hw0]; exact heap_alloc_new w _
 have hb0 : Below w.heap.size w w0 := by rw [hw0]; exact box_below0 _ _ _
 have HW := Lib.hid hw0
 have HX := Lib.hid hx
 have HB0 := Lib.hid hb0
 have ld0 := loadDs_at hx rfl
 have HV := Lib.hid (kvalid_any (z := z) org fmt len blk w0)
 obtain ⟨R, hR⟩ : ∃ R, R = isBaseP z org fmt len blk := ⟨_, rfl⟩
 rw [← hR]
 unfold isBaseP at hR
 clear hw0 hx hb0
 cases hv : kvalP z org fmt len blk with
 | false =>
   rw [hv] at HV
   rw [hv] at hR
   clear hv
   have HR := Lib.hid (show R = false by rw [hR]; simp [])
   clear hR
   go_enter Tryz.func219, Tryz.ntmps219
   go_upto_region 1 with fail
   rw [← HW.out]
   go_wp2_with fail
   refine HV.out.mono ?_
   rintro e w1 ⟨rfl, hb1⟩
   have HB1 := Lib.hid (HB0.out.trans (hb1.mono HB0.out.size))
   have hx1 := heap_below hb1 (lt_of_block HX.out) HX.out
   have d0 := cell_at (i := 0) (v := .int .i64 z.id) hx1 rfl
   have d11 := cell_at (i := 11) (v := .int .i64 z.base) hx1 rfl
   clear hb1 hx1 ld0
   go_wp2_with fail
   go_ret
   exact ⟨by rw [HR.out]; rfl, HB1.out⟩
 | true =>
   rw [hv] at HV
   rw [hv] at hR
   clear hv
   by_cases h1 : (1 : Int) ≤ z.id
   · by_cases h2 : z.id ≤ (1099511627776 : Int)
     · cases h3 : (z.base == 0) with
       | true =>
         have HR := Lib.hid (show R = true by rw [hR]; simp [h1, h2, h3])
         clear hR
         go_enter Tryz.func219, Tryz.ntmps219
         go_upto_region 1 with fail
         rw [← HW.out]
         go_wp2_with fail
         refine HV.out.mono ?_
         rintro e w1 ⟨rfl, hb1⟩
         have HB1 := Lib.hid (HB0.out.trans (hb1.mono HB0.out.size))
         have hx1 := heap_below hb1 (lt_of_block HX.out) HX.out
         have d0 := cell_at (i := 0) (v := .int .i64 z.id) hx1 rfl
         have d11 := cell_at (i := 11) (v := .int .i64 z.base) hx1 rfl
         clear hb1 hx1 ld0
         go_wp2_with fail
         go_ret
         exact ⟨by rw [HR.out]; rfl, HB1.out⟩
       | false =>
         have HR := Lib.hid (show R = false by rw [hR]; simp [h3])
         clear hR
         go_enter Tryz.func219, Tryz.ntmps219
         go_upto_region 1 with fail
         rw [← HW.out]
         go_wp2_with fail
         refine HV.out.mono ?_
         rintro e w1 ⟨rfl, hb1⟩
         have HB1 := Lib.hid (HB0.out.trans (hb1.mono HB0.out.size))
         have hx1 := heap_below hb1 (lt_of_block HX.out) HX.out
         have d0 := cell_at (i := 0) (v := .int .i64 z.id) hx1 rfl
         have d11 := cell_at (i := 11) (v := .int .i64 z.base) hx1 rfl
         clear hb1 hx1 ld0
         go_wp2_with fail
         go_ret
         exact ⟨by rw [HR.out]; rfl, HB1.out⟩
     · have h1 := h1
       have HR := Lib.hid (show R = false by rw [hR]; simp [h2])
       clear hR
       go_enter Tryz.func219, Tryz.ntmps219
       go_upto_region 1 with fail
       rw [← HW.out]
       go_wp2_with fail
       refine HV.out.mono ?_
       rintro e w1 ⟨rfl, hb1⟩
       have HB1 := Lib.hid (HB0.out.trans (hb1.mono HB0.out.size))
       have hx1 := heap_below hb1 (lt_of_block HX.out) HX.out
       have d0 := cell_at (i := 0) (v := .int .i64 z.id) hx1 rfl
       have d11 := cell_at (i := 11) (v := .int .i64 z.base) hx1 rfl
       clear hb1 hx1 ld0
       go_wp2_with fail
       go_ret
       exact ⟨by rw [HR.out]; rfl, HB1.out⟩
   · have h1 := h1
     have HR := Lib.hid (show R = false by rw [hR]; simp [h1])
     clear hR
     go_enter Tryz.func219, Tryz.ntmps219
     go_upto_region 1 with fail
     rw [← HW.out]
     go_wp2_with fail
     refine HV.out.mono ?_
     rintro e w1 ⟨rfl, hb1⟩
     have HB1 := Lib.hid (HB0.out.trans (hb1.mono HB0.out.size))
     have hx1 := heap_below hb1 (lt_of_block HX.out) HX.out
     have d0 := cell_at (i := 0) (v := .int .i64 z.id) hx1 rfl
     have d11 := cell_at (i := 11) (v := .int .i64 z.base) hx1 rfl
     clear hb1 hx1 ld0
     go_wp2_with fail
     go_ret
     exact ⟨by rw [HR.out]; rfl, HB1.out⟩
theorem isSphere_none (w : World) (z : Rest) (org fmt len blk : Int) (a : Option Addr) (cap : Nat) : Calls Tryz.prog 179 #[.agg (dsv z org fmt len blk), .slice a 0 cap] w fun e w' => e = .returned (.bool (isBaseP z org fmt len blk)) ∧ Below w.heap.size w w' := by
 have hmm := @run_makeMap Tryz.prog
 obtain ⟨w0, hw0⟩ : ∃ w0, w0 = w.alloc (.cells (dsv z org fmt len blk) 45) := ⟨_, rfl⟩
 have hx : w0.heap[w.heap.size]? = some (.cells (dsv z org fmt len blk) 45 (0, 0)) := by rw [hw0]; exact heap_alloc_new w _
 have hb0 : Below w.heap.size w w0 := by rw [hw0]; exact box_below0 _ _ _
 obtain ⟨W, hW⟩ : ∃ W, W = w0.alloc (.map #[] 0) := ⟨_, rfl⟩
 have hbW : Below w0.heap.size w0 W := by rw [hW]; exact (Below.refl _ _).alloc (Nat.le_refl _) _
 have HWE := Lib.hid (show W = (w.alloc (.cells (dsv z org fmt len blk) 45)).alloc (.map #[] 0) by rw [hW, hw0])
 have HB := Lib.hid (hb0.trans (hbW.mono hb0.size))
 have ldW := loadDs_at (heap_below hbW (lt_of_block hx) hx) rfl
 have HI := Lib.hid (isBase_w W z org fmt len blk)
 generalize isBaseP z org fmt len blk = R at HI
 clear hx hb0 hbW hW hw0 w0
 go_enter Tryz.func179, Tryz.ntmps179
 go_upto_region 2 with fail
 rw [← HWE.out]
 clear hmm
 go_wp2_with fail
 go_loopw [11] (fun t wr => t = .int .i64 0 ∧ wr = W) (fun _ _ => 0)
 case atStart => exact ⟨rfl, rfl⟩
 case round =>
  obtain ⟨rfl, hwr⟩ := hrel
  subst hwr
  go_wp2_with fail
  refine HI.out.mono ?_
  rintro e w1 ⟨rfl, hb1⟩
  have HB1 := Lib.hid (HB.out.trans (hb1.mono HB.out.size))
  clear hb1 ldW
  cases R with
  | true =>
    go_wp2_with fail
    go_ret
    exact ⟨rfl, HB1.out⟩
  | false =>
    go_wp2_with fail
    go_ret
    exact ⟨rfl, HB1.out⟩
end
end

section
set_option linter.unusedSimpArgs false
set_option linter.unusedVariables false
open Go.RowKit Go.Sort
section
attribute [local go_sem ↓] loadDs_down storeDs_down loadCh_down storeCh_down
def bareP (c : Ch) : Bool := c.key.isEmpty && c.dat.isEmpty
def ck2P (kl : Int) (c : Ch) : Bool := decide ((c.key.length : Int) = kl) && c.dat.isEmpty
def ck4P (ln : Int) (c : Ch) : Bool := decide (c.key.length = 8) && (decide (1 ≤ c.dat.length) && decide ((c.dat.length : Int) ≤ ln))
end
end

section
set_option maxRecDepth 100000
set_option maxHeartbeats 4000000
set_option linter.unusedSimpArgs false
set_option linter.unusedVariables false
open Go.RowKit Go.Sort
section
attribute [local go_sem ↓] loadDs_down storeDs_down loadCh_down storeCh_down
def isSlotP (k : By) : Bool := (numB k).isSome && (decide (1 ≤ numN k) && decide (numN k ≤ 65536))
def ck3P (ka kl ln : Nat) (c : Ch) : Bool := decide (keyOf ka kl ln c.dat = some c.key)
theorem ck3_any (w : World) (c : Ch) (g : Nat) (z : Rest) (fmt len blk : Int) (ka kl ln : Nat) (hg : w.heap[g]? = some (.cells (dsv z 3 fmt len blk) 45 (0, 0))) (hv : kvalP z 3 fmt len blk = true) (hk : KeyOk z len ka kl ln) (hc : ChLen c) :
 Calls Tryz.prog 243 #[.agg c.cs, .pointer (some ⟨g, 0, none⟩)] w fun e w' => e = .returned (.bool (ck3P ka kl ln c)) ∧ Below w.heap.size w w' := by
 obtain ⟨w0, hw0⟩ : ∃ w0, w0 = w.alloc (.cells c.cs 36) := ⟨_, rfl⟩
 have hx : w0.heap[w.heap.size]? = some (.cells c.cs 36 (0, 0)) := by rw [hw0]; exact heap_alloc_new w _
 have hb0 : Below w.heap.size w w0 := by rw [hw0]; exact box_below0 _ _ _
 have HW := Lib.hid hw0
 have HX := Lib.hid hx
 have HB0 := Lib.hid hb0
 have ldD := loadDs_at (heap_below hb0 (lt_of_block hg) hg) rfl
 have k3 := cell_at (i := 3) (v := .string ⟨c.dat.toArray⟩) hx rfl
 have HO := Lib.hid (kof_any fmt len blk ka kl ln c.dat w0 hv hk (by have := hc.len; omega))
 unfold sv ofRet at HO
 obtain ⟨R, hR⟩ : ∃ R, R = ck3P ka kl ln c := ⟨_, rfl⟩
 rw [← hR]
 unfold ck3P at hR
 clear hw0 hx hb0 hg hv hk hc
 cases ho : keyOf ka kl ln c.dat with
 | none =>
   rw [ho] at HO
   have HR := Lib.hid (show R = false by rw [hR, ho]; simp)
   clear hR ho
   simp only [sv] at HO
   go_enter Tryz.func243, Tryz.ntmps243
   go_upto_region 1 with fail
   rw [← HW.out]
   go_wp2_with fail
   refine HO.out.mono ?_
   rintro e w1 ⟨rfl, hb1⟩
   have HB1 := Lib.hid (HB0.out.trans (hb1.mono HB0.out.size))
   clear hb1 ldD k3
   go_wp2_with fail
   go_ret
   exact ⟨by rw [HR.out]; rfl, HB1.out⟩
 | some k =>
   rw [ho] at HO hR
   simp only [sv] at HO
   by_cases he : k = c.key
   · have HR := Lib.hid (show R = true by rw [hR, he]; simp)
     subst he
     clear hR ho
     go_enter Tryz.func243, Tryz.ntmps243
     go_upto_region 1 with fail
     rw [← HW.out]
     go_wp2_with fail
     refine HO.out.mono ?_
     rintro e w1 ⟨rfl, hb1⟩
     have HB1 := Lib.hid (HB0.out.trans (hb1.mono HB0.out.size))
     have k2 := cell_at (i := 2) (v := .string ⟨c.key.toArray⟩) (heap_below hb1 (lt_of_block HX.out) HX.out) rfl
     clear hb1 ldD k3
     go_wp2_with fail
     go_ret
     exact ⟨by rw [HR.out]; rfl, HB1.out⟩
   · have HR := Lib.hid (show R = false by rw [hR]; simp [he])
     have HNE := Lib.hid he
     clear hR ho he
     go_enter Tryz.func243, Tryz.ntmps243
     go_upto_region 1 with fail
     rw [← HW.out]
     go_wp2_with fail
     refine HO.out.mono ?_
     rintro e w1 ⟨rfl, hb1⟩
     have HB1 := Lib.hid (HB0.out.trans (hb1.mono HB0.out.size))
     have k2 := cell_at (i := 2) (v := .string ⟨c.key.toArray⟩) (heap_below hb1 (lt_of_block HX.out) HX.out) rfl
     clear hb1 ldD k3
     go_wp2_with fail
     go_ret
     exact ⟨by rw [HR.out]; exact congrArg (fun b => Ending.returned (Value.bool b)) (beq_false_of_ne (by have := HNE.out; simpa using this)), HB1.out⟩
end
end

section
set_option maxRecDepth 100000
set_option maxHeartbeats 4000000
set_option linter.unusedSimpArgs false
set_option linter.unusedVariables false
open Go.RowKit Go.Sort
/-- The error, and the key that the change has then. -/
def complP (ka kl ln : Nat) (c : Ch) : Int × Ch := match keyOf ka kl ln c.dat with
 | none => (2, c)
 | some k => if c.key ≠ [] ∧ c.key ≠ k then (1, c) else (0, { c with key := k })
section
attribute [local go_sem ↓] loadDs_down storeDs_down
theorem complete_of (w : World) (c : Ch) (g : Nat) (z : Rest) (fmt len blk : Int) (ka kl ln : Nat) (hg : w.heap[g]? = some (.cells c.cs 36 (0, 0))) (hk0 : c.kind = 0) (hv : kvalP z 3 fmt len blk = true) (hk : KeyOk z len ka kl ln) (hc : ChLen c) :
 Calls Tryz.prog 143 #[.agg (dsv z 3 fmt len blk), .pointer (some ⟨g, 0, none⟩)] w fun e w' => e = .returned (.int .i64 (complP ka kl ln c).1) ∧ w'.heap[g]? = some (.cells (complP ka kl ln c).2.cs 36 (0, 0)) ∧ Only [g] w w' := by
 have hb := box_below0 w (dsv z 3 fmt len blk) 45
 have hz := heap_alloc_new w (.cells (dsv z 3 fmt len blk) 45)
 obtain ⟨W, hW⟩ : ∃ W, W = w.alloc (.cells (dsv z 3 fmt len blk) 45) := ⟨_, rfl⟩
 rw [← hW] at hb hz
 have HW := Lib.hid hW
 have HB := Lib.hid hb
 have hgW := heap_below hb (lt_of_block hg) hg
 have HG := Lib.hid hgW
 have c1 := cell_at (i := 1) (v := .int .i64 3) hz rfl
 have k0 := cell_at (i := 0) (v := .int .i64 c.kind) hgW rfl
 rw [hk0] at k0
 have k3 := cell_at (w := W.drew) (i := 3) (v := .string ⟨c.dat.toArray⟩) hgW rfl
 have ldD := loadDs_at (w := W.drew) hz rfl
 have HF := Lib.hid (fun (V : World) (hv : Below W.heap.size W V) => And.intro (loadDs_at (heap_below hv (lt_of_block hz) hz) rfl) ((hv.cell (p := ⟨g, 3, none⟩) (block_lt_of_cell k3)).trans k3))
 have HO := Lib.hid (kof_any fmt len blk ka kl ln c.dat W.drew hv hk (by have := hc.len; omega))
 unfold sv ofRet at HO
 obtain ⟨R, hR⟩ : ∃ R, R = complP ka kl ln c := ⟨_, rfl⟩
 rw [← hR]
 unfold complP at hR
 clear hb hz hgW hg hW hk0 hv hk hc
 cases ho : keyOf ka kl ln c.dat with
 | none =>
   rw [ho] at HO hR
   simp only [sv] at HO
   clear ho
   go_enter Tryz.func143, Tryz.ntmps143
   go_upto_region 1 with fail
   rw [← HW.out]
   go_upto_region 3 with fail
   clear c1 k0
   refine wp_region_held_drew (S := fun V => (loadDs ⟨w.heap.size, 0, none⟩).run Tryz.prog V = .ok (.agg (dsv z 3 fmt len blk)) V ∧ V.cell? ⟨g, 3, none⟩ = some (.string ⟨c.dat.toArray⟩)) (by kernel_rfl) ⟨ldD, k3⟩ (fun hHeld => ?_)
   refine tk 0 (.agg (dsv z 3 fmt len blk)) 18 ?_
   refine tk 1 (.pointer (some ⟨g, 0, none⟩)) 19 ?_
   refine tk 2 (.pointer (some ⟨g, 0, none⟩)) 20 ?_
   refine tk 3 (.pointer (some ⟨g, 3, none⟩)) 21 ?_
   refine tk 4 (.string ⟨c.dat.toArray⟩) 22 ?_
   refine rd1 5 fun K hK => ?_
   go_simp
   refine HO.out.mono ?_
   rintro e V1 ⟨rfl, hbq⟩
   have hb1 : Below W.heap.size W V1 := (below_drewN (Below.refl W.heap.size W) 1).trans hbq
   have HB1 := Lib.hid (HB.out.trans (hb1.mono HB.out.size))
   have HG1 := Lib.hid (heap_below hb1 (lt_of_block HG.out) HG.out)
   have hf := HF.out V1 hb1
   clear hbq hb1
   refine hK.out _ _ hf (fun hHeld => ?_)
   clear hf hK K
   try simp only [lay]
   refine tk 6 (.tuple #[.string ⟨#[]⟩, .int .i64 2]) 17 ?_
   refine tk 7 (.string ⟨#[]⟩) 24 ?_
   refine tk 8 (.int .i64 2) 25 ?_
   refine tk 9 (.string ⟨#[]⟩) 5 ?_
   refine tk 10 (.int .i64 2) 6 ?_
   refine wpAnyH_done (by kernel_rfl) ?_ _
   clear k3 ldD
   have HR := Lib.hid hR
   clear hR
   go_wp2_with fail
   go_ret
   exact ⟨by rw [HR.out]; rfl, by rw [HR.out]; exact HG1.out, Only.of_below HB1.out⟩
 | some k =>
   rw [ho] at HO hR
   simp only [sv] at HO
   clear ho
   go_enter Tryz.func143, Tryz.ntmps143
   go_upto_region 1 with fail
   rw [← HW.out]
   go_upto_region 3 with fail
   clear c1 k0
   refine wp_region_held_drew (S := fun V => (loadDs ⟨w.heap.size, 0, none⟩).run Tryz.prog V = .ok (.agg (dsv z 3 fmt len blk)) V ∧ V.cell? ⟨g, 3, none⟩ = some (.string ⟨c.dat.toArray⟩)) (by kernel_rfl) ⟨ldD, k3⟩ (fun hHeld => ?_)
   refine tk 0 (.agg (dsv z 3 fmt len blk)) 18 ?_
   refine tk 1 (.pointer (some ⟨g, 0, none⟩)) 19 ?_
   refine tk 2 (.pointer (some ⟨g, 0, none⟩)) 20 ?_
   refine tk 3 (.pointer (some ⟨g, 3, none⟩)) 21 ?_
   refine tk 4 (.string ⟨c.dat.toArray⟩) 22 ?_
   refine rd1 5 fun K hK => ?_
   go_simp
   refine HO.out.mono ?_
   rintro e V1 ⟨rfl, hbq⟩
   have hb1 : Below W.heap.size W V1 := (below_drewN (Below.refl W.heap.size W) 1).trans hbq
   have HB1 := Lib.hid (HB.out.trans (hb1.mono HB.out.size))
   have HG1 := Lib.hid (heap_below hb1 (lt_of_block HG.out) HG.out)
   have hf := HF.out V1 hb1
   clear hbq hb1
   refine hK.out _ _ hf (fun hHeld => ?_)
   clear hf hK K
   try simp only [lay]
   refine tk 6 (.tuple #[.string ⟨k.toArray⟩, .int .i64 0]) 17 ?_
   refine tk 7 (.string ⟨k.toArray⟩) 24 ?_
   refine tk 8 (.int .i64 0) 25 ?_
   refine tk 9 (.string ⟨k.toArray⟩) 5 ?_
   refine tk 10 (.int .i64 0) 6 ?_
   refine wpAnyH_done (by kernel_rfl) ?_ _
   clear k3 ldD
   by_cases h1 : c.key = []
   · have HR := Lib.hid (show R = (0, { c with key := k }) by rw [hR]; simp only; rw [if_neg (fun h => h.1 h1)])
     have hrow := HG1.out
     have k2 : V1.cell? ⟨g, 2, none⟩ = some (.string ⟨c.key.toArray⟩) := cell_at (i := 2) hrow rfl
     have fz2 : V1.frozen? ⟨g, 2, none⟩ = false := frozen_of_row V1 g 2 _ _ hrow
     have hrow2 := cell_row_any V1 g 2 _ _ _ (.string ⟨k.toArray⟩) hrow
     have HROW2 := Lib.hid hrow2
     have HON := Lib.hid ((Only.of_below (S := [g]) HB1.out).setCell (p := ⟨g, 2, none⟩) (Or.inl (by simp)) (.string ⟨k.toArray⟩))
     clear hrow hrow2
     rw [h1] at k2
     clear hR h1
     go_wp2_with fail
     go_ret
     exact ⟨by rw [HR.out]; rfl, by rw [HR.out]; exact HROW2.out, HON.out⟩
   · by_cases h2 : c.key = k
     · have HR := Lib.hid (show R = (0, { c with key := k }) by rw [hR]; simp only; rw [if_neg (fun h => h.2 h2)])
       have hrow := HG1.out
       have k2 : V1.cell? ⟨g, 2, none⟩ = some (.string ⟨c.key.toArray⟩) := cell_at (i := 2) hrow rfl
       have fz2 : V1.frozen? ⟨g, 2, none⟩ = false := frozen_of_row V1 g 2 _ _ hrow
       have hrow2 := cell_row_any V1 g 2 _ _ _ (.string ⟨k.toArray⟩) hrow
       have HROW2 := Lib.hid hrow2
       have HON := Lib.hid ((Only.of_below (S := [g]) HB1.out).setCell (p := ⟨g, 2, none⟩) (Or.inl (by simp)) (.string ⟨k.toArray⟩))
       clear hrow hrow2
       have hie : k.isEmpty = false := by
        rw [← h2]
        rcases hq : c.key with _ | ⟨x, l⟩
        · exact absurd hq h1
        · rfl
       clear hR
       go_wp2_with fail
       go_ret
       exact ⟨by rw [HR.out]; rfl, by rw [HR.out]; exact HROW2.out, HON.out⟩
     · have HR := Lib.hid (show R = (1, c) by rw [hR]; simp only; rw [if_pos ⟨h1, h2⟩])
       have k2 : V1.cell? ⟨g, 2, none⟩ = some (.string ⟨c.key.toArray⟩) := cell_at (i := 2) HG1.out rfl
       have hie : c.key.isEmpty = false := by
        rcases hq : c.key with _ | ⟨x, l⟩
        · exact absurd hq h1
        · rfl
       have hne : (c.key == k) = false := beq_false_of_ne h2
       clear hR
       go_wp2_with fail
       go_ret
       exact ⟨by rw [HR.out]; rfl, by rw [HR.out]; exact HG1.out, Only.of_below HB1.out⟩
end
end

section
set_option maxRecDepth 100000
set_option maxHeartbeats 4000000
set_option linter.unusedSimpArgs false
set_option linter.unusedVariables false
open Go.RowKit Go.Sort
/-- The closures of checks, over a description at a block. -/
abbrev fnV (i : Nat) (g : Nat) : Value := .func (Fn.func i) #[] #[.pointer (some ⟨g, 0, none⟩)]
abbrev ckM (w : World) (b : Nat) (m : List (Int × Value)) : Prop := amap w b (Value.int .i64) (fun v : Value => v) I64 m
/-- The checks of a keyed base. -/
def ckK (g : Nat) : List (Int × Value) := aset (aset (aset [] 3 (.func (Fn.func 241) #[] #[])) 1 (fnV 242 g)) 0 (fnV 243 g)
theorem checks_k (w : World) (z : Rest) (fmt len blk : Int) : Calls Tryz.prog 220 #[.agg (dsv z 3 fmt len blk)] w fun e w' => (∃ b, e = .returned (.map (some b)) ∧ ckM w' b (ckK w.heap.size)) ∧ w'.heap[w.heap.size]? = some (.cells (dsv z 3 fmt len blk) 45 (0, 0)) ∧ Below w.heap.size w w' := by
 obtain ⟨w0, hw0⟩ : ∃ w0, w0 = w.alloc (.cells (dsv z 3 fmt len blk) 45) := ⟨_, rfl⟩
 have hx : w0.heap[w.heap.size]? = some (.cells (dsv z 3 fmt len blk) 45 (0, 0)) := by rw [hw0]; exact heap_alloc_new w _
 have hb0 : Below w.heap.size w w0 := by rw [hw0]; exact box_below0 _ _ _
 have d1 := cell_at (i := 1) (v := .int .i64 3) hx rfl
 have HW := Lib.hid hw0
 have hmm := @run_makeMap Tryz.prog
 have h0 : ckM (w0.alloc (.map #[] 0)) w0.heap.size [] := amap_new w0 _ _ _
 have i3 : I64 3 := by unfold I64; rfl
 have i1 : I64 1 := by unfold I64; rfl
 have i0 : I64 0 := by unfold I64; rfl
 have hb1 : Below w0.heap.size w0 (w0.alloc (.map #[] 0)) := (Below.refl _ _).alloc (Nat.le_refl _) _
 obtain ⟨V1, r1, m1, g1, s1⟩ := amap_update (P := Tryz.prog) keyInt Tryz.underlying303 h0 i3 (.func (Fn.func 241) #[] #[])
 obtain ⟨V2, r2, m2, g2, s2⟩ := amap_update (P := Tryz.prog) keyInt Tryz.underlying303 m1 i1 (fnV 242 w.heap.size)
 obtain ⟨V3, r3, m3, g3, s3⟩ := amap_update (P := Tryz.prog) keyInt Tryz.underlying303 m2 i0 (fnV 243 w.heap.size)
 have hon : Only [] w0 V3 := (((Only.of_below hb1).grown g1 (fun x hx => Or.inr (Nat.le_of_eq (Option.some.inj hx)))).grown g2 (fun x hx => Or.inr (Nat.le_of_eq (Option.some.inj hx)))).grown g3 (fun x hx => Or.inr (Nat.le_of_eq (Option.some.inj hx)))
 have HB3 := Lib.hid (hb0.trans (hon.to_below.mono hb0.size))
 have HX3 := Lib.hid (heap_below hon.to_below (lt_of_block hx) hx)
 have HM3 := Lib.hid (show ckM V3 w0.heap.size (ckK w.heap.size) from m3)
 clear hw0 hx hb0 h0 hb1 m1 m2 m3 g1 g2 g3 s1 s2 s3 hon i3 i1 i0
 go_enter Tryz.func220, Tryz.ntmps220
 go_upto_region 1 with fail
 rw [← HW.out]
 go_wp2_with fail
 go_ret
 exact ⟨⟨_, rfl, HM3.out⟩, HX3.out, HB3.out⟩
end

section
set_option maxRecDepth 100000
set_option maxHeartbeats 4000000
set_option linter.unusedSimpArgs false
set_option linter.unusedVariables false
open Go.RowKit Go.Sort
def chgK (z : Rest) (ka kl ln : Nat) (c : Ch) : Bool := decide (c.id = z.id) && (c.vol.isEmpty && ck3P ka kl ln c)
section
attribute [local go_sem ↓] loadDs_down storeDs_down loadCh_down storeCh_down
theorem isChange_k (w : World) (c : Ch) (z : Rest) (fmt len blk : Int) (ka kl ln : Nat) (hk0 : c.kind = 0) (hv : kvalP z 3 fmt len blk = true) (hk : KeyOk z len ka kl ln) (hc : ChLen c) :
 Calls Tryz.prog 180 #[.agg (dsv z 3 fmt len blk), .agg c.cs] w fun e w' => e = .returned (.bool (chgK z ka kl ln c)) ∧ Below w.heap.size w w' := by
 obtain ⟨w0, hw0⟩ : ∃ w0, w0 = w.alloc (.cells (dsv z 3 fmt len blk) 45) := ⟨_, rfl⟩
 have hx : w0.heap[w.heap.size]? = some (.cells (dsv z 3 fmt len blk) 45 (0, 0)) := by rw [hw0]; exact heap_alloc_new w _
 have hb0 : Below w.heap.size w w0 := by rw [hw0]; exact box_below0 _ _ _
 have hs0 : w0.heap.size = w.heap.size + 1 := by rw [hw0]; exact World.size_alloc _ _
 obtain ⟨W, hW⟩ : ∃ W, W = w0.alloc (.cells c.cs 36) := ⟨_, rfl⟩
 have hbW : Below w0.heap.size w0 W := by rw [hW]; exact box_below0 _ _ _
 have hzW : W.heap[w.heap.size + 1]? = some (.cells c.cs 36 (0, 0)) := by rw [hW, ← hs0]; exact heap_alloc_new _ _
 have hxW := heap_below hbW (lt_of_block hx) hx
 have HWE := Lib.hid (show W = (w.alloc (.cells (dsv z 3 fmt len blk) 45)).alloc (.cells c.cs 36) by rw [hW, hw0])
 have HB := Lib.hid (hb0.trans (hbW.mono hb0.size))
 have HX := Lib.hid hxW
 have HZ := Lib.hid hzW
 have HKD := Lib.hid hk0
 have k0 := cell_at (w := W.drew) (i := 0) (v := .int .i64 0) hzW (by rw [← hk0]; rfl)
 have ldD := loadDs_at (w := W.drew) hxW rfl
 have HF := Lib.hid (fun (V : World) (hb : Below W.heap.size W V) => And.intro (loadDs_at (heap_below hb (lt_of_block HX.out) HX.out) rfl) ((hb.cell (p := ⟨w.heap.size + 1, 0, none⟩) (block_lt_of_cell k0)).trans k0))
 have HCK := Lib.hid (checks_k W.drew z fmt len blk)
 have HC3 := Lib.hid (fun (V : World) (g : Nat) (hg : V.heap[g]? = some (.cells (dsv z 3 fmt len blk) 45 (0, 0))) => ck3_any V c g z fmt len blk ka kl ln hg hv hk hc)
 obtain ⟨R, hR⟩ : ∃ R, R = chgK z ka kl ln c := ⟨_, rfl⟩
 rw [← hR]
 unfold chgK at hR
 obtain ⟨q, hq⟩ : ∃ q, q = ck3P ka kl ln c := ⟨_, rfl⟩
 rw [← hq] at hR HC3
 clear hx hb0 hs0 hbW hzW hxW hW hw0 w0 hk0 hv hk hc hq
 go_enter Tryz.func180, Tryz.ntmps180
 go_upto_region 1 with fail
 rw [← HWE.out]
 refine wp_region_held_drew (S := fun V => (loadDs ⟨w.heap.size, 0, none⟩).run Tryz.prog V = .ok (.agg (dsv z 3 fmt len blk)) V ∧ V.cell? ⟨w.heap.size + 1, 0, none⟩ = some (.int .i64 0)) (by kernel_rfl) ⟨ldD, k0⟩ (fun hHeld => ?_)
 refine tk 0 (.agg (dsv z 3 fmt len blk)) 8 ?_
 refine tk 2 (.pointer (some ⟨w.heap.size + 1, 0, none⟩)) 10 ?_
 refine tk 3 (.int .i64 0) 11 ?_
 refine rd1 1 fun K hK => ?_
 go_simp
 refine HCK.out.mono ?_
 rintro e V1 ⟨⟨b, rfl, hm⟩, hg1, hbq⟩
 have hb1 : Below W.heap.size W V1 := (below_drewN (Below.refl W.heap.size W) 1).trans hbq
 have hlk : (Instr.lookup 303 (.map (some b)) (.int .i64 0) true).run Tryz.prog V1 = .ok (.tuple #[fnV 243 W.drew.heap.size, .bool true]) V1 := by
  have := amap_lookup_ok (P := Tryz.prog) keyInt Tryz.underlying303 hm (show I64 0 by unfold I64; rfl) (z := .nilFunc) (w := V1) (by kernel_rfl)
  rw [show alook (ckK W.drew.heap.size) 0 = some (fnV 243 W.drew.heap.size) from alook_aset_same _ _ _] at this
  exact this
 have HB1 := Lib.hid (HB.out.trans (hb1.mono HB.out.size))
 have HG1 := Lib.hid hg1
 have HX1 := Lib.hid (heap_below hb1 (lt_of_block HX.out) HX.out)
 have HZ1 := Lib.hid (heap_below hb1 (lt_of_block HZ.out) HZ.out)
 have hf := HF.out V1 hb1
 have HFF := Lib.hid hf
 clear hm hg1 hbq hb1
 refine hK.out _ _ hf (fun hHeld => ?_)
 clear hf hK K
 try simp only [lay]
 refine rd1 4 fun K hK => ?_
 go_simp
 (try go_wp2_with fail)
 refine hK.out _ _ (HFF.out) (fun hHeld => ?_)
 clear hK K
 try simp only [lay]
 refine tk 5 (.tuple #[fnV 243 W.drew.heap.size, .bool true]) 7 ?_
 refine tk 6 (fnV 243 W.drew.heap.size) 13 ?_
 refine tk 7 (.bool true) 14 ?_
 refine tk 8 (fnV 243 W.drew.heap.size) 5 ?_
 refine tk 9 (.bool true) 6 ?_
 refine wpAnyH_done (by kernel_rfl) ?_ _
 clear hlk ldD k0
 have c1 := cell_at (i := 1) (v := .int .i64 c.id) HZ1.out rfl
 have c4 := cell_at (i := 4) (v := .string ⟨c.vol.toArray⟩) HZ1.out rfl
 have d0 := cell_at (i := 0) (v := .int .i64 z.id) HX1.out rfl
 have ldC := loadCh_at HZ1.out rfl
 by_cases h1 : c.id = z.id
 · have g1 : ((c.id : Int) == z.id) = true := by simpa using h1
   cases hvo : c.vol with
   | nil =>
     have HR := Lib.hid (show R = q by rw [hR, hvo]; simp [h1])
     rw [hvo] at c4
     have HC := Lib.hid (HC3.out V1 _ HG1.out)
     clear hR h1
     go_wp2_with fail
     refine HC.out.mono ?_
     rintro e V2 ⟨rfl, hb2⟩
     have HB2 := Lib.hid (HB1.out.trans (hb2.mono HB1.out.size))
     clear hb2 c1 c4 d0 ldC g1
     go_wp2_with fail
     go_ret
     exact ⟨by rw [HR.out]; rfl, HB2.out⟩
   | cons x l =>
     have HR := Lib.hid (show R = false by rw [hR, hvo]; simp)
     rw [hvo] at c4
     clear hR h1
     go_wp2_with fail
     go_ret
     exact ⟨by rw [HR.out]; rfl, HB1.out⟩
 · have g1 : ((c.id : Int) == z.id) = false := by simpa using h1
   have HR := Lib.hid (show R = false by rw [hR]; simp [h1])
   clear hR h1
   go_wp2_with fail
   go_ret
   exact ⟨by rw [HR.out]; rfl, HB1.out⟩
end
end

section
set_option maxRecDepth 100000
set_option maxHeartbeats 1000000
set_option linter.unusedSimpArgs false
set_option linter.unusedVariables false
open Go.RowKit Go.Sort
theorem each_none (w : World) (f : Value) (g : Nat) (a : Option Addr) (cap : Nat) (hg : w.cell? ⟨g, 0, none⟩ = some (.slice a 0 cap)) : Calls Tryz.prog 181 #[f, .pointer (some ⟨g, 0, none⟩)] w fun e w' => e = .returned (.int .i64 0) ∧ w' = w := by
 go_enter Tryz.func181, Tryz.ntmps181
 go_wp2_with fail
 go_loopw [9] (fun t wr => t = .int .i64 0 ∧ wr = w) (fun _ _ => 0)
 case atStart => exact ⟨rfl, rfl⟩
 case round =>
  obtain ⟨rfl, hwr⟩ := hrel
  subst hwr
  go_wp2_with fail
  go_ret
  exact ⟨rfl, rfl⟩
end

section
set_option linter.unusedSimpArgs false
set_option linter.unusedVariables false
open Go.RowKit Go.Sort
def ck5P (c : Ch) : Bool := isSlotP c.key && c.dat.isEmpty
def ck6P (ln : Int) (c : Ch) : Bool := isSlotP c.key && decide ((c.dat.length : Int) = ln)
section
attribute [local go_sem ↓] loadDs_down storeDs_down loadCh_down storeCh_down
end
end

section
set_option linter.unusedSimpArgs false
set_option linter.unusedVariables false
open Go.RowKit Go.Sort
section
attribute [local go_sem ↓] loadDs_down storeDs_down loadCh_down storeCh_down
def chgB (z : Rest) (b : Bool) (c : Ch) : Bool := decide (c.id = z.id) && (c.vol.isEmpty && b)
end
end

section
set_option linter.unusedSimpArgs false
set_option linter.unusedVariables false
open Go.RowKit Go.Sort
def idP (n : Int) : Bool := decide (1 ≤ n) && decide (n ≤ 1099511627776)
def insideP (z : Rest) (most : Int) : Bool := decide (1 ≤ z.alen) && (decide (0 ≤ z.aat) && (decide (z.alen ≤ most) && decide (z.aat ≤ most - z.alen)))
/-- What every alternate index has, for records of a base of at most a length. -/
def shapeP (x : Co) (most : Int) : Bool :=
 kvalP x.z x.org x.fmt x.len x.blk && (decide (x.org = 3) && (idP x.z.id && (idP x.z.base && (decide (x.z.base ≠ x.z.id) && (insideP x.z most && (decide (x.z.kat = 0) && decide (x.len = x.z.klen)))))))
def knownA (x : Co) : Bool := shapeP x 200 && decide (x.z.alen < x.z.klen)
/-- The alternate key of a record. -/
def keyA (x : Co) (r : By) : Option By := if knownA x = true ∧ x.z.aat.toNat + x.z.alen.toNat ≤ r.length then some ((r.drop x.z.aat.toNat).take x.z.alen.toNat) else none
def abaseP (x : Co) : Bool := kvalP x.z x.org x.fmt x.len x.blk && (idP x.z.id && (decide (x.z.base = 0) && (decide (x.org = 3) || decide (x.org = 1))))
def ksizeA (x : Co) : Int := if x.org = 3 then x.z.klen else 8
/-- A description is one of an alternate index of a base. -/
def validA (x a : Co) : Bool := abaseP x && (decide (a.z.base = x.z.id) && (shapeP a x.len && decide (a.z.klen = a.z.alen + ksizeA x)))
/-- Alternate indexes of a base, after those with some Ids. -/
def sphL (x : Co) (m : List (Int × Unit)) : List Co → Bool
 | [] => true
 | a :: l => !(alook m a.z.id).isSome && (validA x a && sphL x (aset m a.z.id ()) l)
def sphP (x : Co) (alts : List Co) : Bool := sphL x [] alts && (isBaseP x.z x.org x.fmt x.len x.blk && decide (alts.length ≤ 4))
def sideP (a : Co) (r : By) (there : Bool) : Option By := if there = true then keyA a r else none
def ofX (x : Co) (r : By) : Option By := keyOf x.z.kat.toNat x.z.klen.toNat x.len.toNat r
/-- A change is one of a base. -/
def chgA (x : Co) (c : Ch) : Bool := chgB x.z (if c.kind = 3 then bareP c else if x.org = 3 then (if c.kind = 1 then ck2P x.z.klen c else decide (ofX x c.dat = some c.key)) else if x.org = 1 then ck4P x.len c else if c.kind = 1 then ck5P c else ck6P x.len c) c
/-- What the search for another record with an alternate key says: 100 is 'go on'. -/
def dup1 (k b at' : By) (q : By × By × Int) : Int :=
 if q.2.2 = 6 then 0 else if q.2.2 ≠ 0 then q.2.2 else if Op.bytesLess at' q.1 = false ∨ Lib.hasPrefix q.1 k = false then 0 else if q.1 ≠ k ++ b then 19 else 100
def dupU (C : Int → List Pr) (u : Un) (L : Ls) (id : Int) (k b : By) : Int × Ls :=
 if dup1 k b k (nextU C u L id k).1 ≠ 100 then (dup1 k b k (nextU C u L id k).1, (nextU C u L id k).2)
 else (dup1 k b (k ++ b) (nextU C u (nextU C u L id k).2 id (k ++ b)).1, (nextU C u (nextU C u L id k).2 id (k ++ b)).2)
/-- What is gathered: the changes, the puts, the locks. -/
structure Pg where
 out : List Ch
 puts : List Ch
 L : Ls
instance : Inhabited Pg := ⟨⟨[], [], default⟩⟩
def altU (C : Int → List Pr) (u : Un) (c : Ch) (old : By) (there : Bool) (a : Co) (g : Pg) : Int × Pg :=
 if sideP a old there = sideP a c.dat (decide (c.kind ≠ 1)) then (0, g) else
 match (match sideP a old there with
  | some k => g.out ++ [(⟨1, a.z.id, k ++ c.key, [], []⟩ : Ch)]
  | none => g.out), sideP a c.dat (decide (c.kind ≠ 1)) with
 | o, none => (0, { g with out := o })
 | o, some k => if a.z.uniq = true then ((dupU C u g.L a.z.id k c.key).1, ⟨o, g.puts ++ [⟨0, a.z.id, k ++ c.key, k ++ c.key, []⟩], (dupU C u g.L a.z.id k c.key).2⟩)
   else (0, ⟨o, g.puts ++ [⟨0, a.z.id, k ++ c.key, k ++ c.key, []⟩], g.L⟩)
def altsU (C : Int → List Pr) (u : Un) (c : Ch) (old : By) (there : Bool) : List Co → Pg → Int × Pg
 | [], g => (0, g)
 | a :: l, g => if (altU C u c old there a g).1 ≠ 0 then altU C u c old there a g else altsU C u c old there l (altU C u c old there a g).2
def emptyC (id : Int) : Ch := ⟨3, id, [], [], []⟩
/-- What is there of the record before a change. -/
def oldU (C : Int → List Pr) (u : Un) (L : Ls) (x : Co) (c : Ch) : (By × Int) × Ls := if c.kind = 2 then (([], 6), L) else getU C u L x.z.id c.key
def ownC (c : Ch) : Ch := if c.kind = 2 then { c with key := [] } else c
/-- A change of a base, with those of its alternate indexes. -/
def planU (C : Int → List Pr) (u : Un) (L : Ls) (x : Co) (alts : List Co) (c : Ch) : (List Ch × Int) × Ls :=
 if sphP x alts = false ∨ chgA x c = false then (([], 1), L) else
 if c.kind = 3 then ((ownC c :: alts.map (fun a => emptyC a.z.id), 0), L) else
 if (oldU C u L x c).1.2 ≠ 0 ∧ ((oldU C u L x c).1.2 ≠ 6 ∨ c.kind = 1) then (([], (oldU C u L x c).1.2), (oldU C u L x c).2) else
 match altsU C u c (oldU C u L x c).1.1 (decide ((oldU C u L x c).1.2 = 0)) alts ⟨[ownC c], [], (oldU C u L x c).2⟩ with
 | (e, g) => if e ≠ 0 then (([], e), g.L) else ((g.out ++ g.puts, 0), g.L)
end

section
set_option linter.unusedSimpArgs false
set_option linter.unusedVariables false
open Go.RowKit Go.Sort
section
attribute [local go_sem ↓] loadDs_down storeDs_down
end
end

section
set_option linter.unusedSimpArgs false
set_option linter.unusedVariables false
open Go.RowKit Go.Sort
theorem kv_klen {z : Rest} {fmt len blk : Int} (h : kvalP z 3 fmt len blk = true) : 1 ≤ z.klen ∧ z.klen ≤ 32 := by
 obtain ⟨ka, kl, ln, hk⟩ := key_ok h
 have := hk.kl_; have := hk.pos; have := hk.few
 omega
section
attribute [local go_sem ↓] loadDs_down storeDs_down
end
end

end Go.Proofs.YtcefkngblddpoaaGreatDoor

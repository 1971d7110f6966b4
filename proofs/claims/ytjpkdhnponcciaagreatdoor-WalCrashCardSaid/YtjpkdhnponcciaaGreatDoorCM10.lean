/-
  Walks: what the reference trims. Condition: the state lies in memory, its records are valid.
-/
import Derived.Test.YtjpkdhnponcciaaGreatDoorCM9
namespace Go.Proofs.YtjpkdhnponcciaaGreatDoor
open Go.RowKit Go.Sort

def firstOf (next : Int) : List Lr → Int
  | [] => next
  | x :: _ => x.num
/-- What Trim returns. -/
def TrmE (F : List Nat) (n next : Int) (X : List Lr) (e : Ending) (w w' : World) : Prop := ∃ a' cap', e = .returned (.agg (rsC n (firstOf next X) next a' X.length cap')) ∧ RecsF w' F a' X ∧ Below w.heap.size w w' ∧ (a' = none → cap' = 0)
theorem row_none {α : Type} {enc : α → Array Value} {e : TypeId} {z : Nat} {w : World} {base : Nat} {a : Option Addr} {n c : Nat} {l : List α} (h : RowE enc e z w base (.slice a n c) l) : a = none → c = 0 := by
  rintro rfl
  rcases h.2 with ⟨e, _⟩ | ⟨g, cap, cur, e, _⟩
  · cases e; rfl
  · cases e
section
attribute [local go_sem ↓] loadLr_down storeLr_down loadRs_down storeRs_down
set_option maxRecDepth 100000 in
set_option maxHeartbeats 8000000 in
theorem rtrim_w (w : World) (F : List Nat) (n first next upto : Int) (a : Option Addr) (cap : Nat) (L : List Lr) (hR : RecsF w F a L) (hF : ∀ x ∈ F, x < w.heap.size) (hv : ∀ x ∈ L, x.rc.valid = true) (hl : L.length ≤ 1000000) :
    Calls Tryz.prog 16 #[.agg (rsC n first next a L.length cap), .int .i64 upto] w fun e w' => TrmE F n next (filtL (gtP upto) L) e w w' := by
  obtain ⟨w1, hw1⟩ : ∃ w1, w1 = (w.alloc (.cells (rsC n first next a L.length cap) 31)).alloc (.cells rsZ 31) := ⟨_, rfl⟩
  have hg1 : w1.heap[w.heap.size]? = some (.cells (rsC n first next a L.length cap) 31 (0, 0)) := by
    rw [hw1]; exact (halloc _ _ (by simp)).trans (heap_alloc_new w _)
  have hz1 : w1.heap[w.heap.size + 1]? = some (.cells rsZ 31 (0, 0)) := by
    rw [hw1]
    have := heap_alloc_new (w.alloc (.cells (rsC n first next a L.length cap) 31)) (.cells rsZ 31)
    rwa [World.size_alloc] at this
  have hb1 : Below w.heap.size w w1 := by rw [hw1]; exact ((Below.refl _ w).alloc (Nat.le_refl _) _).alloc (by simp) _
  have HS1 := Lib.hid (show w1.heap.size = w.heap.size + 2 by rw [hw1]; simp)
  have HG := Lib.hid hg1
  have HZ := Lib.hid hz1
  have HB1 := Lib.hid hb1
  have HW := Lib.hid hw1
  have HR := Lib.hid hR.at'
  have HC := Lib.hid (show ∀ x ∈ L, ChsF w F x.a x.l ∧ x.l.length ≤ x.cap ∧ x.cap ≤ maxLen from fun x hx => ⟨hR.chs x hx, (hR.at'.chs x hx).2⟩)
  have HF := Lib.hid hF
  have HV := Lib.hid hv
  have HE := Lib.hid (show LrRow (w1.alloc (.cells #[] 50)) w1.heap.size (.slice (some ⟨w1.heap.size, 0, none⟩) 0 0) (filtL (gtP upto) (L.take 0)) ∧ Below w1.heap.size w1 (w1.alloc (.cells #[] 50)) from ⟨row_empty w1 (Nat.le_refl _), box_below0 _ _ _⟩)
  clear hw1 hg1 hz1 hb1 hR hF hv
  go_enter Tryz.func16, Tryz.ntmps16
  go_upto_region 1 with fail
  rw [← HW.out]
  go_wp2_with fail
  go_loopw [5, 6] (fun v k wr => ∃ j : Nat, j ≤ L.length ∧ k = .int .i64 j ∧ LrRow wr w1.heap.size v (filtL (gtP upto) (L.take j)) ∧ Below w1.heap.size w1 wr) (fun _ k _ => L.length - (intOf k).toNat)
  case atStart => exact ⟨0, by omega, rfl, HE.out.1, HE.out.2⟩
  case round =>
    obtain ⟨j, hj, rfl, hrow, hb⟩ := hrel
    have HB := Lib.hid (HB1.out.trans (hb.mono HB1.out.size))
    have HBr := Lib.hid hb
    have HRow := Lib.hid hrow
    have hgr := heap_below hb (lt_of_block HG.out) HG.out
    have HGr := Lib.hid hgr
    have HZr := Lib.hid (heap_below hb (lt_of_block HZ.out) HZ.out)
    have c3 : wr.cell? ⟨w.heap.size, 3, none⟩ = some (.slice a L.length cap) := cell_at hgr rfl
    by_cases hlt : j < L.length
    · have jI : (j : Int) < (L.length : Int) := by omega
      obtain ⟨b, off, rfl, hbb, hat⟩ := HR.out.get hlt
      have ld := (hat.below HB.out hbb).load
      have hval := HV.out _ (List.getElem_mem hlt)
      have HLd := Lib.hid (fun W (h : Below w.heap.size w W) => (hat.below h hbb).load)
      have HFl := Lib.hid (filtL_take (gtP upto) hlt)
      generalize L[j] = x at ld hval HLd HFl
      have hvn := Rc.valid_num hval
      have hla : x.rc.last = x.rc.num + x.rc.l.length - 1 := rfl
      obtain ⟨xn, xu, xa, xc, xl⟩ := x
      simp only [Lr.rc] at hvn hla
      have HLs := Lib.hid (rlast_any xn xu xa xl.length xc wr (by omega) (by omega) (by omega))
      have HLa := Lib.hid hla
      by_cases hk : upto < xn + (xl.length : Int) - 1
      · have hkI : upto < xn + (xl.length : Int) - 1 := by omega
        have HFt := Lib.hid (show filtL (gtP upto) (L.take (j + 1)) = filtL (gtP upto) (L.take j) ++ [⟨xn, xu, xa, xc, xl⟩] from HFl.out.1 (decide_eq_true hk))
        clear hb hgr hrow hat hval hvn hla hbb hk
        go_wp2_with fail
        refine HLs.out.mono ?_
        rintro e w3 ⟨rfl, hb3⟩
        have HB3 := Lib.hid (HBr.out.trans (hb3.mono HBr.out.size))
        have d3 : w3.cell? ⟨w.heap.size, 3, none⟩ = some (.slice (some ⟨b, off, none⟩) L.length cap) := cell_at (heap_below hb3 (lt_of_block HGr.out) HGr.out) rfl
        have ld3 := HLd.out w3 (HB.out.trans (hb3.mono HB.out.size))
        obtain ⟨X, hX⟩ : ∃ X, X = filtL (gtP upto) (L.take j) := ⟨_, rfl⟩
        have HXl := Lib.hid (show X.length ≤ 1000000 from by rw [hX]; exact Nat.le_trans (filtL_len _ _) (by rw [List.length_take]; omega))
        have HRow3 := Lib.hid (show LrRow w3 w1.heap.size u5 X from by rw [hX]; exact HRow.out.below hb3)
        rw [← hX] at HFt
        obtain ⟨va, vc, hv⟩ := RowE.spell encLr HRow3.out
        subst hv
        have hbx : Below w3.heap.size w3 (w3.alloc (.cells (lrC xn xu xa xl.length xc) 50)) := box_below0 _ _ _
        have HBx := Lib.hid hbx
        clear hb3 hX hbx ld c3
        go_upto_region 6 with fail
        go_wp2_with (at_builtin; go_must (refine wpList_append_one rfl _ _ rfl encLr w1.heap.size (.slice va X.length vc) X ⟨xn, xu, xa, xc, xl⟩ rfl (HRow3.out.below HBx.out) w3.heap.size rfl (heap_alloc_new w3 (.cells (lrC xn xu xa xl.length xc) 50)) rfl ?e1 ?e2 ?_))
        case e1 => exact HXl.out
        case e2 => have := HB3.out.size; simp; omega
        intro v' W4 hrow4 hg4 hown4
        have HB4 := Lib.hid (show Below w1.heap.size w1 W4 from ((Only.of_below (S := []) (HB3.out.trans (HBx.out.mono HB3.out.size))).grown hg4 (fun x hx => Or.inr (row_own HRow3.out hx))).to_below)
        have HR4 := Lib.hid hrow4
        clear hrow4 hg4 hown4
        go_wp2_with fail
        go_roundw
        case rel => exact ⟨j + 1, by omega, by go_num, by rw [HFt.out]; exact HR4.out, HB4.out⟩
        case measure => simp [intOf]; omega
      · have hkI : ¬ upto < xn + (xl.length : Int) - 1 := by omega
        have HFt := Lib.hid (show filtL (gtP upto) (L.take (j + 1)) = filtL (gtP upto) (L.take j) from HFl.out.2 (decide_eq_false hk))
        clear hb hgr hrow hat hval hvn hla hbb hk
        go_wp2_with fail
        refine HLs.out.mono ?_
        rintro e w3 ⟨rfl, hb3⟩
        have HB3 := Lib.hid (HBr.out.trans (hb3.mono HBr.out.size))
        have HRow3 := Lib.hid (HRow.out.below hb3)
        clear hb3 ld c3
        go_wp2_with fail
        go_roundw
        case rel => exact ⟨j + 1, by omega, by go_num, by rw [HFt.out]; exact HRow3.out, HB3.out⟩
        case measure => simp [intOf]; omega
    · have jI : ¬ (j : Int) < (L.length : Int) := by omega
      have hrow' : LrRow wr w1.heap.size u5 (filtL (gtP upto) L) := by
        have h := HRow.out
        rwa [List.take_of_length_le (by omega)] at h
      obtain ⟨va, vc, hv⟩ := RowE.spell encLr hrow'
      subst hv
      have HRw := Lib.hid hrow'
      have HXm := Lib.hid (fun x (hx : x ∈ filtL (gtP upto) L) => filtL_mem hx)
      clear hrow hb hrow'
      generalize hXe : filtL (gtP upto) L = X at HRw HXm ⊢
      have HXe := Lib.hid hXe
      clear hXe
      obtain ⟨m, hm⟩ : ∃ m, m = X.length := ⟨_, rfl⟩
      rw [← hm] at HRw ⊢
      have HM := Lib.hid hm
      clear hm
      obtain ⟨s1, hs1⟩ : ∃ s1, s1 = wr.setCell ⟨w.heap.size, 3, none⟩ (.slice va m vc) := ⟨_, rfl⟩
      obtain ⟨s2, hs2⟩ : ∃ s2, s2 = s1.setCell ⟨w.heap.size, 1, none⟩ (.int .i64 next) := ⟨_, rfl⟩
      have r1 := cell_row_any wr w.heap.size 3 _ _ _ (.slice va m vc) hgr
      rw [← hs1] at r1
      have r2 := cell_row_any s1 w.heap.size 1 _ _ _ (.int .i64 next) r1
      rw [← hs2] at r2
      have o1 : Only [w.heap.size] wr s1 := by rw [hs1]; exact (Only.refl _ _).setCell (Or.inl (by simp)) _
      have o2 : Only [w.heap.size] wr s2 := by rw [hs2]; exact o1.setCell (Or.inl (by simp)) _
      have hsz := lt_of_block hgr
      have hsz2 := lt_of_block HZr.out
      have HR2 := Lib.hid (show s2.heap[w.heap.size]? = some (.cells (rsC n next next va m vc) 31 (0, 0)) from r2)
      have HO2 := Lib.hid o2
      have HZ2 := Lib.hid (o2.heap HZr.out (by rw [List.mem_singleton]; omega))
      have k2 : wr.cell? ⟨w.heap.size, 2, none⟩ = some (.int .i64 next) := cell_at hgr rfl
      have z3 : wr.frozen? ⟨w.heap.size, 3, none⟩ = false := free_at hgr 3
      have k1 : s1.cell? ⟨w.heap.size, 1, none⟩ = some (.int .i64 first) := cell_at r1 rfl
      have z1 : s1.frozen? ⟨w.heap.size, 1, none⟩ = false := free_at r1 1
      have HRw2 := Lib.hid (HRw.out.only o2 (fun y hy hm => by have := row_own HRw.out hy; have := HS1.out; rw [List.mem_singleton] at hm; omega))
      have fin : ∀ (s3 : World) (f' : Int), s3.heap[w.heap.size]? = some (.cells (rsC n f' next va m vc) 31 (0, 0)) → Only [w.heap.size] wr s3 →
          (loadRs ⟨w.heap.size, 0, none⟩).run Tryz.prog s3 = .ok (.agg (rsC n f' next va m vc)) s3 ∧ (storeRs ⟨w.heap.size + 1, 0, none⟩ (.agg (rsC n f' next va m vc))).run Tryz.prog s3 = .ok () (s3.setRow (w.heap.size + 1) (rsC n f' next va m vc)) ∧
          (s3.setRow (w.heap.size + 1) (rsC n f' next va m vc)).heap[w.heap.size + 1]? = some (.cells (rsC n f' next va m vc) 31 (0, 0)) ∧
          (∃ a' cap', rsC n f' next va m vc = rsC n f' next a' m cap' ∧ RecsF (s3.setRow (w.heap.size + 1) (rsC n f' next va m vc)) F a' X ∧ Below w.heap.size w (s3.setRow (w.heap.size + 1) (rsC n f' next va m vc)) ∧ (a' = none → cap' = 0)) := by
        intro s3 f' hr ho
        have hz3 := ho.heap HZr.out (by rw [List.mem_singleton]; omega)
        have ho3 : Only [w.heap.size, w.heap.size + 1] wr (s3.setRow (w.heap.size + 1) (rsC n f' next va m vc)) := (ho.mono (fun k hk _ => by rw [List.mem_singleton] at hk; simp [hk])).setRow (Or.inl (by simp)) _
        have hbb : Below w.heap.size w (s3.setRow (w.heap.size + 1) (rsC n f' next va m vc)) := HB.out.trans (ho3.below HB.out.size (fun k hk => by simp only [List.mem_cons, List.not_mem_nil, or_false] at hk; omega))
        obtain ⟨a', c', e', _, _, hRF⟩ := recsF_row (F := F) (HRw.out.only ho3 (fun y hy hm => by have := row_own HRw.out hy; have := HS1.out; simp only [List.mem_cons, List.not_mem_nil, or_false] at hm; omega)) (fun x hx => ⟨(HC.out x (HXm.out x hx)).1.only (Only.of_below hbb), (HC.out x (HXm.out x hx)).2⟩) (fun x hx => by have := HF.out x hx; have := HS1.out; omega)
        rw [← HM.out] at e'
        cases e'
        exact ⟨loadRs_at hr rfl, storeRs_at hz3 rfl rfl (by simp [Value.oneCell']), setRow_heap _ _ _ _ _ _ hz3, ⟨va, vc, rfl, hRF, hbb, row_none HRw.out⟩⟩
      have HFin := Lib.hid fin
      clear hgr r1 r2 o1 o2 fin hsz hsz2
      subst hs2 hs1
      cases X with
      | nil =>
        have hm0 : m = 0 := HM.out
        subst hm0
        obtain ⟨f1, f2, f3, f4⟩ := HFin.out _ next HR2.out HO2.out
        have HQ := Lib.hid (And.intro f3 f4)
        clear f3 f4
        go_wp2_with fail
        obtain ⟨q1, a', c', q2, q3, q4⟩ := HQ.out
        exact ret_rs rfl rfl rfl rfl q1 ⟨a', c', by rw [HXe.out, q2]; first | rfl | (rw [HM.out]; rfl), by rw [HXe.out]; exact q3, q4⟩
      | cons y X =>
        have r3 := cell_row_any _ w.heap.size 1 _ _ _ (.int .i64 y.num) HR2.out
        have o3 := Only.setCell (p := ⟨w.heap.size, 1, none⟩) HO2.out (Or.inl (by simp)) (.int .i64 y.num)
        obtain ⟨f1, f2, f3, f4⟩ := HFin.out _ y.num r3 o3
        have k4 := cell_at (i := 1) (v := .int .i64 next) HR2.out rfl
        have z4 := free_at HR2.out 1
        have hrw := HRw2.out
        obtain ⟨va', vc', e2, _, _, hcl⟩ := RowE.cells encLr hrw
        rw [← HM.out] at e2
        cases e2
        obtain ⟨gb, rfl, _, _, _, hc0⟩ := hcl (by simp)
        have k5 := hc0 0 (by simp) 0 (.int .i64 y.num) rfl
        rw [Nat.zero_mul, Nat.add_zero] at k5
        have hm1 : 0 < m := by rw [HM.out]; simp
        have hpos : (0 : Int) < (m : Int) := by omega
        have HQ := Lib.hid (And.intro f3 f4)
        clear f3 f4 r3 o3 hcl hc0 hrw
        go_wp2_with fail
        obtain ⟨q1, a', c', q2, q3, q4⟩ := HQ.out
        exact ret_rs rfl rfl rfl rfl q1 ⟨a', c', by rw [HXe.out, q2]; first | rfl | (rw [HM.out]; rfl), by rw [HXe.out]; exact q3, q4⟩
end
end Go.Proofs.YtjpkdhnponcciaaGreatDoor

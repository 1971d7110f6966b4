/-
  Walks: what the reference reads. Condition: the state lies in memory, its records are valid.
-/
import Derived.Test.YtjpkdhnponcciaaGreatDoorCM8
namespace Go.Proofs.YtjpkdhnponcciaaGreatDoor
open Go.RowKit Go.Sort

def filtL (p : Rc → Bool) (l : List Lr) : List Lr := l.filter fun x => p x.rc
theorem filtL_map (p : Rc → Bool) (l : List Lr) : (filtL p l).map Lr.rc = (l.map Lr.rc).filter p := by
  unfold filtL; rw [List.filter_map]; rfl
theorem filtL_mem {p : Rc → Bool} {l : List Lr} {x : Lr} (h : x ∈ filtL p l) : x ∈ l := (List.mem_filter.1 h).1
theorem filtL_len (p : Rc → Bool) (l : List Lr) : (filtL p l).length ≤ l.length := List.length_filter_le ..
theorem filtL_take (p : Rc → Bool) {l : List Lr} {j : Nat} (hj : j < l.length) : (p (l[j]).rc = true → filtL p (l.take (j + 1)) = filtL p (l.take j) ++ [l[j]]) ∧ (p (l[j]).rc = false → filtL p (l.take (j + 1)) = filtL p (l.take j)) := by
  unfold filtL
  rw [List.take_succ_eq_append_getElem hj, List.filter_append]
  constructor
  · intro h; rw [List.filter_cons_of_pos (by exact h)]; rfl
  · intro h; rw [List.filter_cons_of_neg (by rw [h]; simp)]; simp
theorem recsF_row {w : World} {base : Nat} {v : Value} {F : List Nat} {X : List Lr} (h : LrRow w base v X) (hc : ∀ x ∈ X, ChsF w F x.a x.l ∧ x.l.length ≤ x.cap ∧ x.cap ≤ maxLen) (hF : ∀ x ∈ F, x < base) : ∃ a cap, v = .slice a X.length cap ∧ X.length ≤ cap ∧ cap ≤ maxLen ∧ RecsF w F a X := by
  obtain ⟨a, cap, e, q1, q2, h2⟩ := h.cells encLr
  refine ⟨a, cap, e, q1, q2, ⟨⟨fun hl => ?_, fun x hx => ⟨(hc x hx).1.at', (hc x hx).2⟩⟩, fun hl p hp => ?_, fun x hx => (hc x hx).1⟩⟩
  · obtain ⟨g, rfl, _, _, h4, h5⟩ := h2 hl
    exact ⟨g, 0, rfl, h4, fun i hi j v hj => by rw [Nat.zero_add]; exact h5 i hi j v (by simpa using hj)⟩
  · obtain ⟨g, rfl, _, hb, _⟩ := h2 hl
    cases hp
    exact fun hm => by have := hF _ hm; simp only at this; omega
theorem row_empty (w : World) {B : Nat} (hB : B ≤ w.heap.size) : LrRow (w.alloc (.cells #[] 50)) B (.slice (some ⟨w.heap.size, 0, none⟩) 0 0) [] :=
  ⟨rfl, Or.inr ⟨w.heap.size, 0, #[], rfl, hB, heap_alloc_new _ _, Nat.le_refl _, Nat.zero_le _, rfl, rfl⟩⟩
abbrev geP (frm : Int) (r : Rc) : Bool := decide (frm ≤ r.last)
abbrev gtP (upto : Int) (r : Rc) : Bool := decide (upto < r.last)
section
attribute [local go_sem ↓] loadLr_down storeLr_down loadRs_down storeRs_down
set_option maxRecDepth 100000 in
set_option maxHeartbeats 8000000 in
theorem rread_w (w : World) (F : List Nat) (n first next frm : Int) (a : Option Addr) (cap : Nat) (L : List Lr) (hR : RecsF w F a L) (hF : ∀ x ∈ F, x < w.heap.size) (hv : ∀ x ∈ L, x.rc.valid = true) (hl : L.length ≤ 1000000) :
    Calls Tryz.prog 17 #[.agg (rsC n first next a L.length cap), .int .i64 frm] w fun e w' => ∃ a' cap' X er, e = .returned (.tuple #[.slice a' X.length cap', .int .i64 er]) ∧ (er, X) = (if max frm 1 < first then (18, []) else (0, filtL (geP frm) L)) ∧ RecsF w' F a' X ∧ Below w.heap.size w w' := by
  obtain ⟨w1, hw1⟩ : ∃ w1, w1 = w.alloc (.cells (rsC n first next a L.length cap) 31) := ⟨_, rfl⟩
  have hg1 : w1.heap[w.heap.size]? = some (.cells (rsC n first next a L.length cap) 31 (0, 0)) := by rw [hw1]; exact heap_alloc_new _ _
  have hb1 : Below w.heap.size w w1 := by rw [hw1]; exact box_below0 _ _ _
  have HG := Lib.hid hg1
  have HB1 := Lib.hid hb1
  have HW := Lib.hid hw1
  have HR := Lib.hid hR.at'
  have HC := Lib.hid (show ∀ x ∈ L, ChsF w F x.a x.l ∧ x.l.length ≤ x.cap ∧ x.cap ≤ maxLen from fun x hx => ⟨hR.chs x hx, (hR.at'.chs x hx).2⟩)
  have HF := Lib.hid hF
  have HV := Lib.hid hv
  have HE := Lib.hid (show LrRow (w1.alloc (.cells #[] 50)) w1.heap.size (.slice (some ⟨w1.heap.size, 0, none⟩) 0 0) (filtL (geP frm) (L.take 0)) ∧ Below w1.heap.size w1 (w1.alloc (.cells #[] 50)) from ⟨row_empty w1 (Nat.le_refl _), box_below0 _ _ _⟩)
  have c1 : w1.cell? ⟨w.heap.size, 1, none⟩ = some (.int .i64 first) := cell_at hg1 rfl
  clear hw1 hg1 hb1 hR hF hv
  by_cases hq : max frm 1 < first
  · have HQ := Lib.hid hq
    go_enter Tryz.func17, Tryz.ntmps17
    go_upto_region 1 with fail
    rw [← HW.out]
    go_wp2_with fail
    go_ret2
    exact ⟨none, 0, [], 18, rfl, by first | exact ⟨rfl, rfl⟩ | simp, RecsF.nil _ _ _, HB1.out⟩
  have HQ := Lib.hid hq
  go_enter Tryz.func17, Tryz.ntmps17
  go_upto_region 1 with fail
  rw [← HW.out]
  go_wp2_with fail
  go_loopw [6, 7] (fun v k wr => ∃ j : Nat, j ≤ L.length ∧ k = .int .i64 j ∧ LrRow wr w1.heap.size v (filtL (geP frm) (L.take j)) ∧ Below w1.heap.size w1 wr) (fun _ k _ => L.length - (intOf k).toNat)
  case atStart => exact ⟨0, by omega, rfl, HE.out.1, HE.out.2⟩
  case round =>
    obtain ⟨j, hj, rfl, hrow, hb⟩ := hrel
    have HB := Lib.hid (HB1.out.trans (hb.mono HB1.out.size))
    have HBr := Lib.hid hb
    have HRow := Lib.hid hrow
    have hgr := heap_below hb (lt_of_block HG.out) HG.out
    have HGr := Lib.hid hgr
    have c3 : wr.cell? ⟨w.heap.size, 3, none⟩ = some (.slice a L.length cap) := cell_at hgr rfl
    by_cases hlt : j < L.length
    · have jI : (j : Int) < (L.length : Int) := by omega
      obtain ⟨b, off, rfl, hbb, hat⟩ := HR.out.get hlt
      have ld := (hat.below HB.out hbb).load
      have hval := HV.out _ (List.getElem_mem hlt)
      have HLd := Lib.hid (fun W (h : Below w.heap.size w W) => (hat.below h hbb).load)
      have HFl := Lib.hid (filtL_take (geP frm) hlt)
      generalize L[j] = x at ld hval HLd HFl
      have hvn := Rc.valid_num hval
      have hla : x.rc.last = x.rc.num + x.rc.l.length - 1 := rfl
      obtain ⟨xn, xu, xa, xc, xl⟩ := x
      simp only [Lr.rc] at hvn hla
      have HLs := Lib.hid (rlast_any xn xu xa xl.length xc wr (by omega) (by omega) (by omega))
      have HLa := Lib.hid hla
      by_cases hk : frm ≤ xn + (xl.length : Int) - 1
      · have hkI : frm ≤ xn + (xl.length : Int) - 1 := by omega
        have HFt := Lib.hid (show filtL (geP frm) (L.take (j + 1)) = filtL (geP frm) (L.take j) ++ [⟨xn, xu, xa, xc, xl⟩] from HFl.out.1 (decide_eq_true hk))
        clear hb hgr hrow hat hval hvn hla hbb hk
        go_wp2_with fail
        refine HLs.out.mono ?_
        rintro e w3 ⟨rfl, hb3⟩
        have HB3 := Lib.hid (HBr.out.trans (hb3.mono HBr.out.size))
        have d3 : w3.cell? ⟨w.heap.size, 3, none⟩ = some (.slice (some ⟨b, off, none⟩) L.length cap) := cell_at (heap_below hb3 (lt_of_block HGr.out) HGr.out) rfl
        have ld3 := HLd.out w3 (HB.out.trans (hb3.mono HB.out.size))
        obtain ⟨X, hX⟩ : ∃ X, X = filtL (geP frm) (L.take j) := ⟨_, rfl⟩
        have HXl := Lib.hid (show X.length ≤ 1000000 from by rw [hX]; exact Nat.le_trans (filtL_len _ _) (by rw [List.length_take]; omega))
        have HRow3 := Lib.hid (show LrRow w3 w1.heap.size u6 X from by rw [hX]; exact HRow.out.below hb3)
        rw [← hX] at HFt
        obtain ⟨va, vc, hv⟩ := RowE.spell encLr HRow3.out
        subst hv
        have hbx : Below w3.heap.size w3 (w3.alloc (.cells (lrC xn xu xa xl.length xc) 50)) := box_below0 _ _ _
        have HBx := Lib.hid hbx
        clear hb3 hX hbx ld c3
        go_upto_region 8 with fail
        go_wp2_with (at_builtin; go_must (refine wpList_append_one rfl _ _ rfl encLr w1.heap.size (.slice va X.length vc) X ⟨xn, xu, xa, xc, xl⟩ rfl (HRow3.out.below HBx.out) w3.heap.size rfl (heap_alloc_new w3 (.cells (lrC xn xu xa xl.length xc) 50)) rfl ?e1 ?e2 ?_))
        case e1 => exact HXl.out
        case e2 => have := HB3.out.size; simp; omega
        intro v' W4 hrow4 hg4 hown4
        have HB4 := Lib.hid (show Below w1.heap.size w1 W4 from ((Only.of_below (S := []) (HB3.out.trans (HBx.out.mono HB3.out.size))).grown hg4 (fun x hx => Or.inr (row_own HRow3.out hx))).to_below)
        have HR4 := Lib.hid hrow4
        clear hrow4 hg4 hown4
        go_wp2_with fail
        go_roundw
        case rel => exact ⟨j + 1, by omega, by go_num, by rw [HFt.out]; exact HR4.out, HB4.out⟩
        case measure => simp [intOf]; omega
      · have hkI : ¬ frm ≤ xn + (xl.length : Int) - 1 := by omega
        have HFt := Lib.hid (show filtL (geP frm) (L.take (j + 1)) = filtL (geP frm) (L.take j) from HFl.out.2 (decide_eq_false hk))
        clear hb hgr hrow hat hval hvn hla hbb hk
        go_wp2_with fail
        refine HLs.out.mono ?_
        rintro e w3 ⟨rfl, hb3⟩
        have HB3 := Lib.hid (HBr.out.trans (hb3.mono HBr.out.size))
        have HRow3 := Lib.hid (HRow.out.below hb3)
        clear hb3 ld c3
        go_wp2_with fail
        go_roundw
        case rel => exact ⟨j + 1, by omega, by go_num, by rw [HFt.out]; exact HRow3.out, HB3.out⟩
        case measure => simp [intOf]; omega
    · have jI : ¬ (j : Int) < (L.length : Int) := by omega
      have hrow' : LrRow wr w1.heap.size u6 (filtL (geP frm) L) := by
        have h := HRow.out
        rwa [List.take_of_length_le (by omega)] at h
      obtain ⟨va, vc, hv, hvc1, hvc2, hRF⟩ := recsF_row hrow' (fun x hx => ⟨(HC.out x (filtL_mem hx)).1.only (Only.of_below HB.out), (HC.out x (filtL_mem hx)).2⟩) (F := F) (fun x hx => by have := HF.out x hx; have := HB1.out.size; omega)
      subst hv
      have HRF := Lib.hid (And.intro hRF (And.intro hvc1 hvc2))
      clear hrow hb hgr hrow' hRF hvc1 hvc2
      go_wp2_with fail
      go_ret2
      exact ⟨va, vc, _, 0, rfl, by first | exact ⟨rfl, rfl⟩ | simp, HRF.out.1, HB.out⟩
end
end Go.Proofs.YtjpkdhnponcciaaGreatDoor

/-
  Walks: the reference's state, what is free in it, what is read of it. Condition: the state lies in memory, its records are valid.
-/
import Derived.Test.YtjpkdhnponcciaaGreatDoorCR
namespace Go.Proofs.YtjpkdhnponcciaaGreatDoor
open Go.RowKit Go.Sort

theorem info_rs : (Tryz.prog.info? 31).map (·.size) = some 4 := by kernel_rfl
def loadRs (p : Addr) : Sem Value := loadVar 31 p
theorem loadRs_down (p : Addr) : loadVar 31 p = loadRs p := rfl
def storeRs (p : Addr) (v : Value) : Sem Unit := storeVar 31 p v
theorem storeRs_down (p : Addr) (v : Value) : storeVar 31 p v = storeRs p v := rfl
theorem loadRs_at {w : World} {g : Nat} {cs : Array Value} {t : TypeId} {fr : Nat × Nat} (hg : w.heap[g]? = some (.cells cs t fr)) (hi : cs.size = 4) : (loadRs ⟨g, 0, none⟩).run Tryz.prog w = .ok (.agg cs) w :=
  run_loadVar_row (P := Tryz.prog) w g t 31 cs fr _ hg Tryz.underlying31 rfl (by rw [info_rs, hi])
theorem storeRs_at {w : World} {g : Nat} {cs : Array Value} {t : TypeId} {old : Array Value} (hg : w.heap[g]? = some (.cells old t (0, 0))) (hi : cs.size = 4) (ho : old.size = 4) (h1 : cs.all (·.oneCell') = true) : (storeRs ⟨g, 0, none⟩ (.agg cs)).run Tryz.prog w = .ok () (w.setRow g cs) :=
  run_storeVar_row (P := Tryz.prog) w g t 31 old cs hg (by rw [info_rs, hi]) (by rw [ho, hi]) h1
abbrev rsZ : Array Value := #[.int .i64 0, .int .i64 0, .int .i64 0, .slice none 0 0]
theorem put_rs (w : World) (cs : Array Value) (hi : cs.size = 4) (h1 : cs.all (·.oneCell') = true) : ∃ W, (storeRs ⟨w.heap.size, 0, none⟩ (.agg cs)).run Tryz.prog (w.alloc (.cells rsZ 31)) = .ok () W ∧ W.heap[w.heap.size]? = some (.cells cs 31 (0, 0)) ∧ Below w.heap.size w W := by
  have hz := heap_alloc_new w (.cells rsZ 31)
  exact ⟨_, storeRs_at hz hi rfl h1, setRow_heap _ _ _ _ _ _ hz, below_setRow (box_below0 w rsZ 31) (Nat.le_refl _) _⟩
theorem ret_rs {fn : Func} {R : Ending → World → Prop} {a : Act} {w : World} {p : Tmp} {rb : Nat} {cs : Array Value} (hf : fn.results = #[.cell p 31]) (hp : a.tmps.getD p undef = .pointer (some ⟨rb, 0, none⟩)) (hd : a.defers = [])
    (hi : cs.size = 4) (hg : w.heap[rb]? = some (.cells cs 31 (0, 0))) (hR : R (.returned (.agg cs)) w) : bodyPost Tryz.prog fn R .ret a w :=
  bodyPost_ret (results_cell_row hf _ _ rb 31 _ (0, 0) _ hp hg Tryz.underlying31 rfl (by rw [info_rs, hi])) hd hR
theorem ret2_rs {fn : Func} {R : Ending → World → Prop} {a : Act} {w : World} {p q : Tmp} {rb : Nat} {cs : Array Value} {v : Value} (hf : fn.results = #[.cell p 31, .tmp q]) (hp : a.tmps.getD p undef = .pointer (some ⟨rb, 0, none⟩)) (hq : a.tmps.getD q undef = v) (hd : a.defers = [])
    (hi : cs.size = 4) (hg : w.heap[rb]? = some (.cells cs 31 (0, 0))) (hR : R (.returned (.tuple #[.agg cs, v])) w) : bodyPost Tryz.prog fn R .ret a w := by
  subst hq
  exact bodyPost_ret (results2 hf _ hp (loadRs_at hg hi)) hd hR
abbrev rsC (n first next : Int) (a : Option Addr) (len cap : Nat) : Array Value := #[.int .i64 n, .int .i64 first, .int .i64 next, .slice a len cap]
theorem chLen_of {c : Ch} (h : chV c = true) : ChLen c := by
  obtain ⟨h1, _, h2, h3, h4⟩ := ch_ok h
  exact ⟨i64_of (by omega) (by omega), by omega⟩
theorem Rc.valid_chs {r : Rc} (h : r.valid = true) : ∀ c ∈ r.l, ChLen c := fun c hc => chLen_of ((sound_of (Rc.valid_iff.1 h).1).2 c hc)
section
attribute [local go_sem ↓] loadLr_down storeLr_down loadRs_down storeRs_down
set_option maxRecDepth 100000 in
theorem rnew_w (n : Nat) (hn : 1 ≤ n ∧ n ≤ 5000) (w : World) : Calls Tryz.prog 14 #[.int .i64 n] w fun e w' => e = .returned (.agg (rsC ((n : Int) - 1) 1 1 none 0 0)) ∧ Below w.heap.size w w' := by
  obtain ⟨w1, st1, hg1, hb1⟩ := put_rs w (rsC ((n : Int) - 1) 1 1 none 0 0) rfl (by simp [Value.oneCell'])
  have HG := Lib.hid hg1
  have HB := Lib.hid hb1
  have hwr : IntKind.i64.wrap ((n : Int) - 1) = (n : Int) - 1 := IntWalk.i64_in _ (by omega)
  clear hg1 hb1
  go_enter Tryz.func14, Tryz.ntmps14
  go_wp2_with fail
  exact ret_rs rfl rfl rfl rfl HG.out ⟨rfl, HB.out⟩
def sumC (l : List Rc) : Nat := (l.map fun r => cntW r.b.length).sum
theorem sumC_take {L : List Rc} {j : Nat} (hj : j < L.length) : sumC (L.take (j + 1)) = sumC (L.take j) + cntW (L[j]).b.length := by
  unfold sumC; rw [List.take_succ_eq_append_getElem hj, List.map_append, List.sum_append]; simp
theorem sumC_room : ∀ l : List Rc, sumC l = roomW l
  | [] => rfl
  | r :: l => by
    have := sumC_room l
    unfold sumC at this ⊢
    rw [List.map_cons, List.sum_cons, roomW, this]
theorem sumC_le (l : List Rc) (j : Nat) : sumC (l.take j) ≤ sumC l := by
  have e : sumC l = sumC (l.take j) + sumC (l.drop j) := by
    unfold sumC
    rw [← List.sum_append, ← List.map_append, List.take_append_drop]
  omega
set_option maxRecDepth 100000 in
set_option maxHeartbeats 4000000 in
theorem rfree_w (w : World) (n first next : Int) (a : Option Addr) (cap : Nat) (L : List Lr) (hR : Recs w w.heap.size a L) (hv : ∀ x ∈ L, x.rc.valid = true) (hn : 0 ≤ n ∧ n ≤ 1000000) (hs : sumC (L.map Lr.rc) ≤ 1000000) (hl : L.length ≤ 1000000) :
    Calls Tryz.prog 21 #[.agg (rsC n first next a L.length cap)] w fun e w' => e = .returned (.int .i64 (n - sumC (L.map Lr.rc))) ∧ Below w.heap.size w w' := by
  obtain ⟨w1, hw1⟩ : ∃ w1, w1 = w.alloc (.cells (rsC n first next a L.length cap) 31) := ⟨_, rfl⟩
  have hg1 : w1.heap[w.heap.size]? = some (.cells (rsC n first next a L.length cap) 31 (0, 0)) := by rw [hw1]; exact heap_alloc_new _ _
  have hb1 : Below w.heap.size w w1 := by rw [hw1]; exact box_below0 _ _ _
  have HG := Lib.hid hg1
  have HB1 := Lib.hid hb1
  have HW := Lib.hid hw1
  have HR := Lib.hid hR
  have HV := Lib.hid hv
  have HS := Lib.hid hs
  have c0 : w1.cell? ⟨w.heap.size, 0, none⟩ = some (.int .i64 n) := cell_at hg1 rfl
  clear hw1 hg1 hb1 hR hv hs
  go_enter Tryz.func21, Tryz.ntmps21
  go_upto_region 1 with fail
  rw [← HW.out]
  go_wp2_with fail
  go_loopw [4, 3] (fun k c wr => ∃ j : Nat, j ≤ L.length ∧ k = .int .i64 j ∧ c = .int .i64 (n - sumC ((L.map Lr.rc).take j)) ∧ Below w1.heap.size w1 wr) (fun k _ _ => L.length - (intOf k).toNat)
  case atStart => exact ⟨0, by omega, rfl, by simp [sumC], Below.refl _ _⟩
  case round =>
    obtain ⟨j, hj, rfl, rfl, hb⟩ := hrel
    have HB := Lib.hid (HB1.out.trans (hb.mono HB1.out.size))
    have HBr := Lib.hid hb
    have hgr := heap_below hb (lt_of_block HG.out) HG.out
    have c3 : wr.cell? ⟨w.heap.size, 3, none⟩ = some (.slice a L.length cap) := cell_at hgr rfl
    by_cases hlt : j < L.length
    · have jI : (j : Int) < (L.length : Int) := by omega
      have hjm : j < (L.map Lr.rc).length := by rw [List.length_map]; exact hlt
      obtain ⟨b, off, rfl, hbb, hat⟩ := HR.out.get hlt
      have ld := (hat.below HB.out hbb).load
      have hch := (HR.out.chs _ (List.getElem_mem hlt)).1
      have hval := HV.out _ (List.getElem_mem hlt)
      have hst := sumC_take hjm
      rw [List.getElem_map] at hst
      have hle := sumC_le (L.map Lr.rc) (j + 1)
      generalize L[j] = x at ld hch hval hst
      have hvi := Rc.valid_iff.1 hval
      have HSz := Lib.hid (rsize_w wr wr.heap.size x ((hch.below HB.out).mono HB.out.size) (Nat.le_refl _) (by have := (Rc.valid_num hval).2.2; show x.rc.l.length ≤ _; omega) (fun c hc => Rc.valid_chs hval c hc) hvi.1 hvi.2)
      have hsb : (lrB x).length = x.rc.b.length := rfl
      rw [hsb] at HSz
      generalize cntW x.rc.b.length = q at HSz hst
      have hsum := HS.out
      obtain ⟨s0, hs0⟩ : ∃ s0, s0 = sumC ((L.map Lr.rc).take j) := ⟨_, rfl⟩
      rw [← hs0] at hst ⊢
      have hsub : IntKind.i64.wrap (n - (s0 : Int) - (q : Int)) = n - ((s0 + q : Nat) : Int) := by rw [IntWalk.i64_in _ (by omega)]; omega
      have HSt := Lib.hid hst
      obtain ⟨xc, hxc⟩ : ∃ xc, xc = x.cs := ⟨_, rfl⟩
      rw [← hxc] at ld HSz
      clear hb hgr hat hch hval hvi hsb hsum hst hle hxc hs0 hjm hbb
      go_wp2_with fail
      refine HSz.out.mono ?_
      rintro e w2 ⟨rfl, hb2⟩
      have HB2 := Lib.hid (HB.out.trans (hb2.mono HB.out.size))
      have hb12 := Lib.hid (HBr.out.trans (hb2.mono HBr.out.size))
      clear hb2 ld c3
      go_wp2_with fail
      go_roundw
      case rel => exact ⟨j + 1, by omega, by go_num, by rw [HSt.out, Int.natCast_add], hb12.out⟩
      case measure => simp [intOf]; omega
    · have jI : ¬ (j : Int) < (L.length : Int) := by omega
      clear hb hgr
      go_wp2_with fail
      go_ret
      exact ⟨by rw [List.take_of_length_le (by rw [List.length_map]; omega)]; rfl, HB.out⟩
end
end Go.Proofs.YtjpkdhnponcciaaGreatDoor

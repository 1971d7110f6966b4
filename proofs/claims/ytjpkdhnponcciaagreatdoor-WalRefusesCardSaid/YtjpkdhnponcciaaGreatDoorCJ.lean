/-
  Walks: Read. Condition: the log and its copies lie in memory, and have the sectors.
  Walks: Trim. Condition: the log and its copies lie in memory, and have the sectors.
  Walks: Trim. Condition: the log and its copies lie in memory, and have the sectors.
-/
import Derived.Test.YtjpkdhnponcciaaGreatDoorCI
namespace Go.Proofs.YtjpkdhnponcciaaGreatDoor

section
open Go.RowKit Go.Sort

theorem encLr : Enc Tryz.prog (fun x : Lr => x.cs) 29 50 3 := by
  obtain ⟨i, h1, h2, h3, h4⟩ := info_parts (show (Tryz.prog.info? 50).map (fun i => (i.zero, i.size, i.bytes)) = some (some (.agg #[.int .i64 0, .int .i64 0, .slice none 0 0]), 3, 40) by kernel_rfl)
  exact ⟨Tryz.underlying29, ⟨i, _, h1, h2, h3, by omega, rfl, by omega⟩, fun _ => rfl, fun x u hu => by simp at hu; rcases hu with rfl | rfl | rfl <;> rfl⟩
abbrev LrRow (w : World) (base : Nat) (v : Value) (l : List Lr) : Prop := RowE (fun x : Lr => x.cs) 50 3 w base v l
theorem row_lt {α : Type} {enc : α → Array Value} {e : TypeId} {z : Nat} {w : World} {base : Nat} {v : Value} {l : List α} (h : RowE enc e z w base v l) {k : Nat} (hk : v.ownBlock = some k) : k < w.heap.size := by
  rcases h.2 with ⟨rfl, _⟩ | ⟨g, cap, cur, rfl, _, hblk, _⟩
  · cases hk
  · cases hk; exact lt_of_block hblk
theorem rows_apart {α β : Type} {enc : α → Array Value} {enc' : β → Array Value} {e e' : TypeId} {z z' : Nat} {w : World} {b b' : Nat} {v v' : Value} {l : List α} {l' : List β} (h : RowE enc e z w b v l) (h' : RowE enc' e' z' w b' v' l') (hne : e ≠ e') {k : Nat} (hk : v.ownBlock = some k) : v'.ownBlock ≠ some k := by
  intro hk'
  rcases h.2 with ⟨rfl, _⟩ | ⟨g, cap, cur, rfl, _, hblk, _⟩
  · cases hk
  · rcases h'.2 with ⟨rfl, _⟩ | ⟨g', cap', cur', rfl, _, hblk', _⟩
    · cases hk'
    · cases hk; cases hk'
      rw [hblk] at hblk'
      have := Option.some.inj hblk'
      injection this with _ h2
      exact hne h2
/-- A row of records, each with its row of changes, all from block `base` on. -/
structure LrsAt (w : World) (base : Nat) (v : Value) (L : List Lr) : Prop where
  row : LrRow w base v L
  chs : ∀ x ∈ L, ChRow w base (.slice x.a x.l.length x.cap) x.l
theorem LrsAt.below {w w' : World} {base : Nat} {v : Value} {L : List Lr} (h : LrsAt w base v L) (hb : Below w.heap.size w w') : LrsAt w' base v L := ⟨h.row.below hb, fun x hx => (h.chs x hx).below hb⟩
theorem LrsAt.only {w w' : World} {base : Nat} {v : Value} {L : List Lr} {S : List Nat} (h : LrsAt w base v L) (ho : Only S w w') (hS : ∀ x ∈ S, x < base) : LrsAt w' base v L :=
  ⟨h.row.only ho (fun k hk hm => by have := row_own h.row hk; have := hS k hm; omega), fun x hx => (h.chs x hx).only ho (fun k hk hm => by have := row_own (h.chs x hx) hk; have := hS k hm; omega)⟩
theorem LrsAt.mono {w : World} {base base' : Nat} {v : Value} {L : List Lr} (h : LrsAt w base v L) (hb : base' ≤ base) : LrsAt w base' v L := ⟨h.row.mono hb, fun x hx => (h.chs x hx).mono hb⟩
def keepR (frm : Int) (l : List Rc) : List Rc := l.filter fun r => decide (frm ≤ r.last)
/-- What Read's visitor has gathered. -/
structure RdV (w0 : World) (fb ob : Nat) (frm : Int) (pre : List (Rc × Nat × Nat)) (S : List Nat) (W : World) : Prop where
  ex : ∃ v L, L.map Lr.rc = keepR frm (pre.map (·.1)) ∧ W.heap[ob]? = some (.cells #[v] 29 (0, 0)) ∧ LrsAt W w0.heap.size v L ∧ S = ob :: v.ownBlock.toList ∧ L.length ≤ pre.length
  frm : W.cell? ⟨fb, 0, none⟩ = some (.int .i64 frm)
  only : Only [ob] w0 W
theorem RdV.below {w0 : World} {fb ob : Nat} {frm : Int} {pre : List (Rc × Nat × Nat)} {S : List Nat} {W W' : World} (h : RdV w0 fb ob frm pre S W) (hf : fb < w0.heap.size) (hb : Below W.heap.size W W') : RdV w0 fb ob frm pre S W' := by
  obtain ⟨⟨v, L, h1, h2, h3, h4, h6⟩, h5, ho⟩ := h
  exact ⟨⟨v, L, h1, heap_below hb (lt_of_block h2) h2, h3.below hb, h4, h6⟩, (hb.cell (p := ⟨fb, 0, none⟩) (Nat.lt_of_lt_of_le hf ho.size)).trans h5, ho.step_below hb⟩
section
attribute [local go_sem ↓] loadHd_down storeHd_down loadLr_down storeLr_down
set_option maxRecDepth 100000 in
set_option maxHeartbeats 8000000 in
theorem read1_w (w0 : World) (fb ob : Nat) (frm : Int) (hfb : fb < w0.heap.size) (hob : ob < w0.heap.size) (hne : fb ≠ ob) (_hfr : I64 frm) (pre : List (Rc × Nat × Nat)) (S : List Nat) (W : World) (r : Rc) (a : Option Addr) (cap k n : Nat) (hV : RdV w0 fb ob frm pre S W) (hrow : ChRow W w0.heap.size (.slice a r.l.length cap) r.l) (hs : r.sound = true) (hp : pre.length ≤ 1000000) :
    Calls Tryz.prog 55 #[.agg (lrC r.num r.unit a r.l.length cap), .int .i64 (k : Nat), .int .i64 (n : Nat), .pointer (some ⟨fb, 0, none⟩), .pointer (some ⟨ob, 0, none⟩)] W fun e W' =>
      e = .returned (.bool true) ∧ ∃ S', RdV w0 fb ob frm (pre ++ [(r, k, n)]) S' W' ∧ Only S W W' ∧ ∀ x ∈ S', x ∈ S ∨ (W.heap.size ≤ x ∧ x < W'.heap.size) := by
  obtain ⟨⟨hn1, hn2⟩, hl1, hl2⟩ := Rc.sound_num hs
  obtain ⟨⟨v, L, h1, h2, h3, h4, h6⟩, h5, ho⟩ := hV
  obtain ⟨W1, hW1⟩ : ∃ W1, W1 = W.alloc (.cells (lrC r.num r.unit a r.l.length cap) 50) := ⟨_, rfl⟩
  have hg1 : W1.heap[W.heap.size]? = some (.cells (lrC r.num r.unit a r.l.length cap) 50 (0, 0)) := by rw [hW1]; exact heap_alloc_new _ _
  have hb1 : Below W.heap.size W W1 := by rw [hW1]; exact box_below0 _ _ _
  have hlr : ∀ d os, (loadLr ⟨W.heap.size, 0, none⟩).run Tryz.prog (grow (redrawn W1 d) os) = .ok (.agg (lrC r.num r.unit a r.l.length cap)) (grow (redrawn W1 d) os) := fun d os => loadLr_at (heap_below (below_regrown W1 d os) (lt_of_block hg1) hg1) rfl
  have c5 : W1.cell? ⟨fb, 0, none⟩ = some (.int .i64 frm) := (hb1.cell (p := ⟨fb, 0, none⟩) (Nat.lt_of_lt_of_le hfb ho.size)).trans h5
  have hcf : ∀ d os, (grow (redrawn W1 d) os).cell? ⟨fb, 0, none⟩ = some (.int .i64 frm) := fun d os => cell_regrown c5 d os
  have HLs := Lib.hid (fun d os => last_w r.num r.unit a r.l.length cap (grow (redrawn W1 d) os) (by omega) (by omega) (by omega))
  have HW := Lib.hid hW1
  have HG1 := Lib.hid hg1
  have HB1 := Lib.hid hb1
  have HV := Lib.hid (show RdV w0 fb ob frm pre S W from ⟨⟨v, L, h1, h2, h3, h4, h6⟩, h5, ho⟩)
  have HLast := Lib.hid (show r.last = r.num + r.l.length - 1 from rfl)
  have HRow := Lib.hid hrow
  clear hW1 hg1 hb1 h5 c5 hrow
  go_enter Tryz.func55, Tryz.ntmps55
  go_upto_region 1 with fail
  rw [← HW.out]
  refine wp_region_quiet_below (by kernel_rfl) (by kernel_rfl) ?_
  repeat (go_big_quiet_step ((go_at_call 56; exact Calls.regrown_of (HLs.out _ _))))
  refine wpQuiet_nil ?_
  rintro _ ⟨⟨dq, osq⟩, rfl⟩
  have hbr := HB1.out.trans ((below_regrown W1 dq osq).mono HB1.out.size)
  have hg2 := heap_below (below_regrown W1 dq osq) (lt_of_block HG1.out) HG1.out
  have HB2 := Lib.hid hbr
  have HG2 := Lib.hid hg2
  clear hlr hcf HLs hbr
  generalize grow (redrawn W1 dq) osq = W2 at HB2 HG2 hg2 ⊢
  by_cases hk : frm ≤ r.last
  · have hkI : frm ≤ r.num + (r.l.length : Int) - 1 := by have := HLast.out; omega
    have ldr := loadLr_at hg2 rfl
    have hob2 := heap_below HB2.out (lt_of_block h2) h2
    obtain ⟨va, vc, rfl⟩ := RowE.spell encLr h3.row
    have co := cell_at (i := 0) (v := .slice va L.length vc) hob2 rfl
    have fo : W2.frozen? ⟨ob, 0, none⟩ = false := free_at hob2 0
    have HOB := Lib.hid hob2
    have HL3 := Lib.hid h3
    have HH2 := Lib.hid h2
    have HKe := Lib.hid (show (L ++ [(⟨r.num, r.unit, a, cap, r.l⟩ : Lr)]).map Lr.rc = keepR frm ((pre ++ [(r, k, n)]).map (·.1)) by
      unfold keepR at h1 ⊢
      rw [List.map_append, h1, List.map_append, List.filter_append]
      congr 1
      simp only [List.map_cons, List.map_nil]
      rw [List.filter_cons_of_pos (by simpa using hk)]
      rfl)
    clear hg2 hob2 h2 hk h1 hs
    go_wp2_with (at_builtin; go_must (refine wpList_append_one rfl _ _ rfl encLr w0.heap.size (.slice va L.length vc) L ⟨r.num, r.unit, a, cap, r.l⟩ rfl ((HL3.out.row.below HB2.out).below (box_below0 W2 (lrC r.num r.unit a r.l.length cap) 50)) W2.heap.size rfl (heap_alloc_new W2 (.cells (lrC r.num r.unit a r.l.length cap) 50)) rfl ?e1 ?e2 ?_))
    case e1 => omega
    case e2 => have := ho.size; have := HB2.out.size; simp; omega
    intro v' W4 hrow4 hg4 hown4
    have hb3 : Below W2.heap.size W2 (W2.alloc (.cells (lrC r.num r.unit a r.l.length cap) 50)) := box_below0 _ _ _
    have hobl : ob ∉ (Value.slice va L.length vc).ownBlock.toList := fun hm => by
      rw [Option.mem_toList] at hm
      have := row_own HL3.out.row hm
      omega
    have hO := (Only.of_below (S := S) (HB2.out.trans (hb3.mono HB2.out.size))).grown hg4 (fun x hx => Or.inl (by rw [h4, hx]; simp))
    have hO1 : Only [ob] w0 W4 := (ho.step_below (HB2.out.trans (hb3.mono HB2.out.size))).grown hg4 (fun x hx => Or.inr (row_own HL3.out.row hx))
    have hob4 : W4.heap[ob]? = some (.cells #[.slice va L.length vc] 29 (0, 0)) := (hg4.block ob (Nat.lt_of_lt_of_le (lt_of_block HOB.out) hb3.size) (fun e => hobl (by rw [Option.mem_toList]; exact e.symm))).trans (heap_below hb3 (lt_of_block HOB.out) HOB.out)
    have fr4 : W4.frozen? ⟨ob, 0, none⟩ = false := free_at hob4 0
    have cc4 : W4.cell? ⟨ob, 0, none⟩ = some (.slice va L.length vc) := cell_at hob4 rfl
    have hx : ∀ x ∈ L ++ [(⟨r.num, r.unit, a, cap, r.l⟩ : Lr)], ChRow W4 w0.heap.size (.slice x.a x.l.length x.cap) x.l := by
      have hb23 := HB2.out.trans (hb3.mono HB2.out.size)
      have key : ∀ x : Lr, ChRow W w0.heap.size (.slice x.a x.l.length x.cap) x.l → ChRow W4 w0.heap.size (.slice x.a x.l.length x.cap) x.l := fun x hx =>
        (hx.below hb23).only (S := (Value.slice va L.length vc).ownBlock.toList) ((Only.refl _ _).grown hg4 (fun y hy => Or.inl (by rw [hy]; simp))) (fun y hy hm => by
          rw [Option.mem_toList] at hm
          exact rows_apart hx HL3.out.row (by decide) hy hm)
      intro x hm
      rcases List.mem_append.1 hm with hm | hm
      · exact key x (HL3.out.chs x hm)
      · rw [List.mem_singleton] at hm; subst hm; exact key _ HRow.out
    have hL1 : (L ++ [(⟨r.num, r.unit, a, cap, r.l⟩ : Lr)]).length ≤ pre.length + 1 := by simp; omega
    generalize L ++ [(⟨r.num, r.unit, a, cap, r.l⟩ : Lr)] = L2 at hrow4 HKe hx hL1 ⊢
    obtain ⟨va', vc', rfl⟩ := RowE.spell encLr hrow4
    have hZ : RdV w0 fb ob frm (pre ++ [(r, k, n)]) (ob :: (Value.slice va' L2.length vc').ownBlock.toList) (W4.setCell ⟨ob, 0, none⟩ (.slice va' L2.length vc')) := by
      have ho5 : Only [ob] W4 (W4.setCell ⟨ob, 0, none⟩ (.slice va' L2.length vc')) := (Only.refl _ _).setCell (Or.inl (by simp)) _
      have hog : Only (Value.slice va L.length vc).ownBlock.toList W W4 := (Only.of_below (HB2.out.trans (hb3.mono HB2.out.size))).grown hg4 (fun x hx => Or.inl (by rw [hx]; simp))
      refine ⟨⟨_, _, HKe.out, cell_row_any W4 ob 0 _ _ _ _ hob4, ⟨?_, ?_⟩, rfl, by simpa using hL1⟩, ?_, hO1.setCell (Or.inl (by simp)) _⟩
      · exact hrow4.only ho5 (fun x hx hm => by rw [List.mem_singleton] at hm; have := row_own hrow4 hx; omega)
      · exact fun x hm => (hx x hm).only ho5 (fun y hy hm => by rw [List.mem_singleton] at hm; have := row_own (hx x ‹_›) hy; omega)
      · rw [ho5.cell (p := ⟨fb, 0, none⟩) (Nat.lt_of_lt_of_le hfb hO1.size) (by simpa using hne), hO1.cell (p := ⟨fb, 0, none⟩) hfb (by simpa using hne)]
        have h7 := HV.out.only.cell (p := ⟨fb, 0, none⟩) hfb (by simpa using hne)
        rw [← h7]; exact HV.out.frm
    have hown : ∀ x ∈ (ob :: (Value.slice va' L2.length vc').ownBlock.toList), x ∈ S ∨ (W.heap.size ≤ x ∧ x < W4.heap.size) := by
      intro x hx
      rcases List.mem_cons.1 hx with rfl | hx
      · exact Or.inl (by rw [h4]; simp)
      · rw [Option.mem_toList] at hx
        rcases hown4 with h | h
        · exact Or.inl (by rw [h4, ← h, hx]; simp)
        · have h7 := row_lt hrow4 hx
          rw [h] at hx
          have h8 := Option.some.inj hx
          have h9 := HB2.out.size
          exact Or.inr ⟨by omega, h7⟩
    have HZ := Lib.hid hZ
    have HO := Lib.hid (hO.setCell (p := ⟨ob, 0, none⟩) (Or.inl (by rw [h4]; simp)) (.slice va' L2.length vc'))
    have HOw := Lib.hid hown
    clear hZ hO hO1 hown hx hL1 hrow4 hg4 hown4 hob4 hb3 ldr co fo h4 h3 hobl
    go_wp2_with fail
    go_ret
    exact ⟨rfl, _, HZ.out, HO.out, fun x hx => by simpa using HOw.out x hx⟩
  · have hkI : ¬ frm ≤ r.num + (r.l.length : Int) - 1 := by have := HLast.out; omega
    have HZ := Lib.hid (show RdV w0 fb ob frm (pre ++ [(r, k, n)]) S W2 from by
      obtain ⟨⟨v, L, h1, h2, h3, h4, h6⟩, h5, ho⟩ := HV.out.below hfb HB2.out
      refine ⟨⟨v, L, ?_, h2, h3, h4, by simp; omega⟩, h5, ho⟩
      unfold keepR at h1 ⊢
      rw [h1, List.map_append, List.filter_append]
      simp only [List.map_cons, List.map_nil]
      rw [List.filter_cons_of_neg (by simpa using hk)]
      simp)
    clear hg2 h2 h3 h4 hk h1 hs
    go_wp2_with fail
    go_ret
    exact ⟨rfl, S, HZ.out, Only.of_below HB2.out, fun x hx => Or.inl hx⟩
set_option maxRecDepth 100000 in
set_option maxHeartbeats 8000000 in
theorem lread_w (w : World) (lb : Nat) (ka kb : Bk) (A B : Cp) (frm : Int) (hfr : I64 frm) (hL : LgAt w lb ka kb A B) (H : BgH A B) (HF : (beginV A B).e = 0 → HdFit (beginV A B).h (beginV A B).a (beginV A B).b) (hlen : (beginV A B).e = 0 → (walkV (beginV A B).a (beginV A B).b (beginV A B).h (fun _ => true)).1.length ≤ 1000000) :
    Calls Tryz.prog 28 #[.pointer (some ⟨lb, 0, none⟩), .int .i64 frm] w fun e w' =>
      (∃ v L, e = .returned (.tuple #[v, .int .i64 (readV A B frm).1.2]) ∧ L.map Lr.rc = (readV A B frm).1.1 ∧ LrsAt w' w.heap.size v L) ∧ LgAt w' lb ka kb (readV A B frm).2.1 (readV A B frm).2.2 ∧ Only (fS ka kb A B) w w' := by
  obtain ⟨w1, hw1⟩ : ∃ w1, w1 = w.alloc (.cells #[.int .i64 frm] 3) := ⟨_, rfl⟩
  have hg1 : w1.heap[w.heap.size]? = some (.cells #[.int .i64 frm] 3 (0, 0)) := by rw [hw1]; exact heap_alloc_new _ _
  have hb1 : Below w.heap.size w w1 := by rw [hw1]; exact box_below0 _ _ _
  have hL1 := hL.below hb1
  have HBg := Lib.hid (begin_w w1 lb ka kb A B hL1 H.ha H.hb H.hx H.hy)
  have HK := Lib.hid (@beginV_ok A B)
  have HRV := Lib.hid (show readV A B frm = (let g := beginV A B
      if g.e ≠ 0 then (([], g.e), g.a, g.b) else
      if max frm 1 < (g.h.first : Int) then (([], 18), g.a, g.b) else
      let q := walkV g.a g.b g.h (fun _ => true)
      if q.2 = true then (((q.1.map (·.1)).filter (fun r => decide (frm ≤ r.last)), 0), g.a, g.b) else (([], 11), g.a, g.b)) from rfl)
  have HG1 := Lib.hid hg1
  have HB1 := Lib.hid hb1
  have HW := Lib.hid hw1
  have HF := Lib.hid HF
  have HLn := Lib.hid hlen
  have hnew := hL.new (Nat.le_refl w.heap.size)
  have HNW := Lib.hid (And.intro hnew (show w.heap.size ≠ lb from fun e => by have := lt_of_block hL.row; omega))
  clear hw1 hg1 hb1 hL1 hL H hlen hnew
  generalize readV A B frm = R at HRV ⊢
  generalize beginV A B = g at HBg HK HRV HF HLn
  obtain ⟨h, er, A', B'⟩ := g
  simp only at HBg HK HRV HF HLn
  go_enter Tryz.func28, Tryz.ntmps28
  go_upto_region 1 with fail
  rw [← HW.out]
  go_wp2_with fail
  refine HBg.out.mono ?_
  rintro e w2 ⟨rfl, hL2, ho2⟩
  obtain ⟨w3, st3, hg3, hb3⟩ := put_hd w2 h.cs rfl (by simp [Value.oneCell'])
  have HL3 := Lib.hid (hL2.below hb3)
  have HO3 := Lib.hid (((Only.of_below (S := fS ka kb A B) HB1.out).trans ho2).step_below hb3)
  have hfs : w.heap.size ∉ fS ka kb A B := fun hm => (fS_mem hm).elim HNW.out.1.1 HNW.out.1.2
  have hf3 := heap_below hb3 (lt_of_block (ho2.heap HG1.out hfs)) (ho2.heap HG1.out hfs)
  have HF3 := Lib.hid hf3
  by_cases he : er = 0
  · subst he
    have ok := HK.out rfl
    have hf := HF.out rfl
    have hln := HLn.out rfl
    have HH3 := Lib.hid hg3
    have c1 := cell_at (i := 1) (v := .int .i64 h.first) hg3 rfl
    have cf := cell_at (i := 0) (v := .int .i64 frm) hf3 rfl
    simp only [ne_eq, not_true_eq_false, if_false] at HRV
    clear hL2 ho2 hg3 hb3 hf3
    by_cases hmx : max frm 1 < (h.first : Int)
    · have HR := Lib.hid (show R = (([], 18), A', B') by rw [HRV.out, if_pos hmx])
      go_wp2_with fail
      go_ret2
      refine ⟨⟨.slice none 0 0, [], by rw [HR.out]; rfl, by rw [HR.out]; rfl, ⟨RowE.nil _ _, fun x hx => by cases hx⟩⟩, by rw [HR.out]; exact HL3.out, HO3.out⟩
    · have HRV := Lib.hid (show R = (if (walkV A' B' h (fun _ => true)).2 = true then ((((walkV A' B' h (fun _ => true)).1.map (·.1)).filter (fun r => decide (frm ≤ r.last)), 0), A', B') else (([], 11), A', B')) by rw [HRV.out, if_neg hmx])
      obtain ⟨w4, hw4⟩ : ∃ w4, w4 = w3.alloc (.cells #[.slice none 0 0] 29) := ⟨_, rfl⟩
      have hg4 : w4.heap[w3.heap.size]? = some (.cells #[.slice none 0 0] 29 (0, 0)) := by rw [hw4]; exact heap_alloc_new _ _
      have hb4 : Below w3.heap.size w3 w4 := by rw [hw4]; exact box_below0 _ _ _
      have hL4 := HL3.out.below hb4
      have hn3 := HL3.out.new (Nat.le_refl w3.heap.size)
      have hf4 := heap_below hb4 (lt_of_block HF3.out) HF3.out
      have ld4 := loadHd_at (heap_below hb4 (lt_of_block HH3.out) HH3.out) rfl
      have HWk := Lib.hid (walkR_w w4 lb ka kb A' B' h w.heap.size w3.heap.size (fun _ => true) (RdV w4 w.heap.size w3.heap.size frm) [w3.heap.size] hL4 hf ok.at' ok.first ok.next
        (fun x hx => by rw [List.mem_singleton] at hx; subst hx; exact ⟨lt_of_block hg4, fun e => by have := lt_of_block HL3.out.row; omega, hn3.1, hn3.2⟩)
        (fun pre S W W' hv hb => hv.below (lt_of_block hf4) hb)
        ⟨⟨.slice none 0 0, [], rfl, hg4, ⟨RowE.nil _ _, fun x hx => by cases hx⟩, rfl, Nat.le_refl _⟩, cell_at hf4 rfl, Only.refl _ _⟩
        (fun pre S W r a cap k n hv _ _ _ hrow hs _ _ _ _ hpost => by
          obtain ⟨post, hpo⟩ := hpost rfl
          exact read1_w w4 w.heap.size w3.heap.size frm (lt_of_block hf4) (lt_of_block hg4) (fun e => by have := lt_of_block HF3.out; omega) hfr pre S W r a cap k n hv hrow hs (by rw [hpo] at hln; simp at hln; omega)))
      have HW4 := Lib.hid hw4
      have HO4 := Lib.hid (HO3.out.step_below hb4)
      have HL4 := Lib.hid hL4
      have HS4 := Lib.hid (show w.heap.size ≤ w3.heap.size ∧ w.heap.size ≤ w4.heap.size from ⟨HO3.out.size, Nat.le_trans HO3.out.size hb4.size⟩)
      have HN3 := Lib.hid (And.intro hn3 (show lb ≠ w3.heap.size from fun e => by have := lt_of_block HL3.out.row; omega))
      clear hw4 hg4 hb4 hL4 hn3 hf4 hln ok hf
      generalize walkV A' B' h (fun _ => true) = q at HWk HRV
      obtain ⟨tot, okk⟩ := q
      simp only at HWk HRV
      go_upto_region 7 with fail
      rw [← HW4.out]
      clear c1 cf
      go_wp2_with fail
      cases okk with
      | true =>
        simp only [if_true] at HWk HRV
        refine HWk.out.mono ?_
        rintro e w5 ⟨rfl, ⟨S', hV5, _⟩, ho5⟩
        obtain ⟨⟨v, L, k1, k2, k3, k4, _⟩, _, _⟩ := hV5
        have co := cell_at (i := 0) (v := v) k2 rfl
        have HFin := Lib.hid (show L.map Lr.rc = R.1.1 ∧ LrsAt w5 w.heap.size v L ∧ LgAt w5 lb ka kb A' B' ∧ Only (fS ka kb A B) w w5 ∧ R.1.2 = 0 ∧ R.2 = (A', B') from
          ⟨by rw [HRV.out]; exact k1, k3.mono HS4.out.2, ⟨ho5.heap HL4.out.row (by rw [List.mem_singleton]; exact HN3.out.2), HL4.out.a.only ho5 (fun x hx hm => by rw [List.mem_singleton] at hm; subst hm; exact HN3.out.1.1 hx), HL4.out.b.only ho5 (fun x hx hm => by rw [List.mem_singleton] at hm; subst hm; exact HN3.out.1.2 hx), HL4.out.dis, fun x hx => Nat.lt_of_lt_of_le (HL4.out.lt x hx) ho5.size, HL4.out.lbn⟩,
            HO4.out.then ho5 (fun x hx => Or.inr (by rw [List.mem_singleton] at hx; rw [hx]; exact HS4.out.1)), by rw [HRV.out], by rw [HRV.out]⟩)
        obtain ⟨va, vc, rfl⟩ := RowE.spell encLr k3.row
        clear k1 k2 k3 k4 ho5 ld4
        go_wp2_with fail
        go_ret2
        exact ⟨⟨_, L, by rw [HFin.out.2.2.2.2.1]; rfl, HFin.out.1, HFin.out.2.1⟩, by rw [HFin.out.2.2.2.2.2]; exact HFin.out.2.2.1, HFin.out.2.2.2.1⟩
      | false =>
        simp only [Bool.false_eq_true, if_false] at HWk HRV
        refine HWk.out.mono ?_
        rintro e w5 ⟨rfl, ⟨S', hV5, _⟩, ho5⟩
        have HFin := Lib.hid (show LgAt w5 lb ka kb A' B' ∧ Only (fS ka kb A B) w w5 from
          ⟨⟨ho5.heap HL4.out.row (by rw [List.mem_singleton]; exact HN3.out.2), HL4.out.a.only ho5 (fun x hx hm => by rw [List.mem_singleton] at hm; subst hm; exact HN3.out.1.1 hx), HL4.out.b.only ho5 (fun x hx hm => by rw [List.mem_singleton] at hm; subst hm; exact HN3.out.1.2 hx), HL4.out.dis, fun x hx => Nat.lt_of_lt_of_le (HL4.out.lt x hx) ho5.size, HL4.out.lbn⟩,
            HO4.out.then ho5 (fun x hx => Or.inr (by rw [List.mem_singleton] at hx; rw [hx]; exact HS4.out.1))⟩)
        clear hV5 ho5 ld4
        go_wp2_with fail
        go_ret2
        exact ⟨⟨.slice none 0 0, [], by rw [HRV.out]; rfl, by rw [HRV.out]; rfl, ⟨RowE.nil _ _, fun x hx => by cases hx⟩⟩, by rw [HRV.out]; exact HFin.out.1, HFin.out.2⟩
  · have hb0 : (er != 0) = true := by rw [bne_iff_ne]; exact he
    have HR := Lib.hid (show R = (([], er), A', B') by rw [HRV.out, if_pos he])
    clear hL2 ho2 hg3 hb3 hf3 he
    go_wp2_with fail
    go_ret2
    exact ⟨⟨.slice none 0 0, [], by rw [HR.out]; rfl, by rw [HR.out]; rfl, ⟨RowE.nil _ _, fun x hx => by cases hx⟩⟩, by rw [HR.out]; exact HL3.out, HO3.out⟩
end
end

section
open Go.RowKit Go.Sort

def cutH (h g : Hw) (x : Rc × Nat × Nat) : Hw := { g with first := x.1.last.toNat + 1, at' := h.place x.2.1 x.2.2, used := g.used - x.2.2 }
theorem restW_snoc (h : Hw) (l : List (Rc × Nat × Nat)) (x : Rc × Nat × Nat) : restW h (l ++ [x]) = cutH h (restW h l) x := by simp [restW, cutH]
/-- What Trim's visitor has gathered. -/
structure TrV (w0 : World) (ub hp rb : Nat) (upto : Int) (h : Hw) (pre : List (Rc × Nat × Nat)) (S : List Nat) (W : World) : Prop where
  rest : W.heap[rb]? = some (.cells (restW h pre).cs 105 (0, 0))
  hd : W.heap[hp]? = some (.cells h.cs 105 (0, 0))
  upto : W.cell? ⟨ub, 0, none⟩ = some (.int .i64 upto)
  only : Only [rb] w0 W
  own : S = [rb]
theorem TrV.below {w0 : World} {ub hp rb : Nat} {upto : Int} {h : Hw} {pre : List (Rc × Nat × Nat)} {S : List Nat} {W W' : World} (t : TrV w0 ub hp rb upto h pre S W) (hb : Below W.heap.size W W') : TrV w0 ub hp rb upto h pre S W' :=
  ⟨heap_below hb (lt_of_block t.rest) t.rest, heap_below hb (lt_of_block t.hd) t.hd, (hb.cell (p := ⟨ub, 0, none⟩) (block_lt_of_cell t.upto)).trans t.upto, t.only.step_below hb, t.own⟩
section
attribute [local go_sem ↓] loadHd_down storeHd_down loadLr_down storeLr_down
set_option maxRecDepth 100000 in
set_option maxHeartbeats 8000000 in
theorem trim1_w (w0 : World) (ub hp rb : Nat) (upto : Int) (h : Hw) (hn16 : 16 ≤ h.n ∧ h.n ≤ 4096) (_hrb : rb < w0.heap.size) (hne : rb ≠ hp ∧ rb ≠ ub) (pre : List (Rc × Nat × Nat)) (S : List Nat) (W : World) (r : Rc) (a : Option Addr) (cap k n : Nat) (hV : TrV w0 ub hp rb upto h pre S W) (hs : r.sound = true) (hk : 1 ≤ k ∧ k < h.n) (hn : n ≤ 171)
    (hq : r.last ≤ upto → (restW h pre).used ≤ 4096 ∧ n ≤ (restW h pre).used) :
    Calls Tryz.prog 82 #[.agg (lrC r.num r.unit a r.l.length cap), .int .i64 (k : Nat), .int .i64 (n : Nat), .pointer (some ⟨ub, 0, none⟩), .pointer (some ⟨hp, 0, none⟩), .pointer (some ⟨rb, 0, none⟩)] W fun e W' =>
      e = .returned (.bool (decide (r.last ≤ upto))) ∧ ∃ S', TrV w0 ub hp rb upto h (if decide (r.last ≤ upto) = true then pre ++ [(r, k, n)] else pre) S' W' ∧ Only S W W' ∧ ∀ x ∈ S', x ∈ S ∨ (W.heap.size ≤ x ∧ x < W'.heap.size) := by
  obtain ⟨⟨hn1, hn2⟩, hl1, hl2⟩ := Rc.sound_num hs
  have hS := hV.own
  subst hS
  obtain ⟨W1, hW1⟩ : ∃ W1, W1 = W.alloc (.cells (lrC r.num r.unit a r.l.length cap) 50) := ⟨_, rfl⟩
  have hg1 : W1.heap[W.heap.size]? = some (.cells (lrC r.num r.unit a r.l.length cap) 50 (0, 0)) := by rw [hW1]; exact heap_alloc_new _ _
  have hb1 : Below W.heap.size W W1 := by rw [hW1]; exact box_below0 _ _ _
  have hlr : ∀ d os, (loadLr ⟨W.heap.size, 0, none⟩).run Tryz.prog (grow (redrawn W1 d) os) = .ok (.agg (lrC r.num r.unit a r.l.length cap)) (grow (redrawn W1 d) os) := fun d os => loadLr_at (heap_below (below_regrown W1 d os) (lt_of_block hg1) hg1) rfl
  have c5 : W1.cell? ⟨ub, 0, none⟩ = some (.int .i64 upto) := (hb1.cell (p := ⟨ub, 0, none⟩) (block_lt_of_cell hV.upto)).trans hV.upto
  have hcf : ∀ d os, (grow (redrawn W1 d) os).cell? ⟨ub, 0, none⟩ = some (.int .i64 upto) := fun d os => cell_regrown c5 d os
  have HLs0 := Lib.hid (fun d os => last_w r.num r.unit a r.l.length cap (grow (redrawn W1 d) os) (by omega) (by omega) (by omega))
  have HW := Lib.hid hW1
  have HG1 := Lib.hid hg1
  have HB1 := Lib.hid hb1
  have HV := Lib.hid hV
  have HLast := Lib.hid (show r.last = r.num + r.l.length - 1 from rfl)
  clear hW1 hg1 hb1 c5
  obtain ⟨E, hE⟩ : ∃ E, E = (if decide (r.last ≤ upto) = true then pre ++ [(r, k, n)] else pre) := ⟨_, rfl⟩
  rw [← hE]
  have HE := Lib.hid hE
  clear hE
  obtain ⟨D, hD⟩ : ∃ D : Bool, D = decide (r.last ≤ upto) := ⟨_, rfl⟩
  rw [← hD]
  have HD := Lib.hid hD
  clear hD
  go_enter Tryz.func82, Tryz.ntmps82
  go_upto_region 1 with fail
  rw [← HW.out]
  refine wp_region_quiet_below (by kernel_rfl) (by kernel_rfl) ?_
  repeat (go_big_quiet_step ((go_at_call 56; exact Calls.regrown_of (HLs0.out _ _))))
  refine wpQuiet_nil ?_
  rintro _ ⟨⟨dq, osq⟩, rfl⟩
  have hbr := HB1.out.trans ((below_regrown W1 dq osq).mono HB1.out.size)
  have hg2 := heap_below (below_regrown W1 dq osq) (lt_of_block HG1.out) HG1.out
  have HB2 := Lib.hid hbr
  have HG2 := Lib.hid hg2
  clear hlr hcf HLs0 hbr hV
  generalize grow (redrawn W1 dq) osq = W2 at HB2 HG2 hg2 ⊢
  by_cases hku : r.last ≤ upto
  · have hkI : ¬ upto < r.num + (r.l.length : Int) - 1 := by have := HLast.out; omega
    have hqq := hq hku
    have hr2 := heap_below HB2.out (lt_of_block HV.out.rest) HV.out.rest
    have hh2 := heap_below HB2.out (lt_of_block HV.out.hd) HV.out.hd
    have HSn := Lib.hid (restW_snoc h pre (r, k, n))
    have hlX : r.last.toNat + 1 = r.num.toNat + r.l.length := by have := HLast.out; omega
    obtain ⟨q, hqe⟩ : ∃ q, q = restW h pre := ⟨_, rfl⟩
    rw [← hqe] at hr2 HSn hqq
    have HH2 := Lib.hid hh2
    have HR2 := Lib.hid hr2
    obtain ⟨X, hX⟩ : ∃ X, X = r.last.toNat + 1 := ⟨_, rfl⟩
    have hXI : r.num + (r.l.length : Int) - 1 + 1 = (X : Int) := by omega
    have hXw : IntKind.i64.wrap (X : Int) = (X : Int) := IntWalk.i64_in _ (by omega)
    have hX6 : wrap64 (r.num + (r.l.length : Int)) = (X : Int) := by rw [IntWalk.wrap64_in _ (by omega)]; omega
    have hX7 : IntKind.i64.wrap (r.num + (r.l.length : Int)) = (X : Int) := by rw [IntWalk.i64_in _ (by omega)]; omega
    have hXl : IntKind.i64.wrap (r.num + (r.l.length : Int) - 1 + 1) = (X : Int) := by rw [hXI]; exact hXw
    have hsu : IntKind.i64.wrap ((q.used : Int) - (n : Int)) = ((q.used - n : Nat) : Int) := by rw [IntWalk.i64_in _ (by omega)]; omega
    have HLs := Lib.hid (fun V => last_w r.num r.unit a r.l.length cap V (by omega) (by omega) (by omega))
    have HPl := Lib.hid (fun V => place_w h hn16 k n ⟨hk.1, by omega⟩ (by omega) V)
    have HNE := Lib.hid (show rb ≠ W.heap.size ∧ rb < W.heap.size from by have := lt_of_block HV.out.rest; exact ⟨by omega, this⟩)
    have e0 := loadLr_at (w := W2.drew) hg2 rfl
    have e1 := loadHd_at (w := W2.drew) hh2 rfl
    have e4 : W2.drew.cell? ⟨rb, 4, none⟩ = some (.int .i64 q.used) := cell_at (w := W2.drew) hr2 rfl
    have HX := Lib.hid hX
    generalize hP : h.place k n = P at HPl
    have HPe := Lib.hid hP
    have HSt := Lib.hid (fun (v : World) (hb : Below W2.heap.size W2 v) =>
      let s1 := v.setCell ⟨rb, 1, none⟩ (.int .i64 (X : Nat))
      let s2 := s1.setCell ⟨rb, 3, none⟩ (.int .i64 (P : Nat))
      let s3 := s2.setCell ⟨rb, 4, none⟩ (.int .i64 (q.used - n : Nat))
      show (v.cell? ⟨rb, 1, none⟩ = some (.int .i64 q.first) ∧ v.frozen? ⟨rb, 1, none⟩ = false ∧ s1.cell? ⟨rb, 3, none⟩ = some (.int .i64 q.at') ∧ s1.frozen? ⟨rb, 3, none⟩ = false ∧ s2.cell? ⟨rb, 4, none⟩ = some (.int .i64 q.used) ∧ s2.frozen? ⟨rb, 4, none⟩ = false) ∧
        ((loadLr ⟨W.heap.size, 0, none⟩).run Tryz.prog s1 = .ok (.agg (lrC r.num r.unit a r.l.length cap)) s1 ∧ (loadHd ⟨hp, 0, none⟩).run Tryz.prog s1 = .ok (.agg h.cs) s1) ∧
        ((loadLr ⟨W.heap.size, 0, none⟩).run Tryz.prog s2 = .ok (.agg (lrC r.num r.unit a r.l.length cap)) s2 ∧ (loadHd ⟨hp, 0, none⟩).run Tryz.prog s2 = .ok (.agg h.cs) s2) ∧
        ((loadLr ⟨W.heap.size, 0, none⟩).run Tryz.prog s3 = .ok (.agg (lrC r.num r.unit a r.l.length cap)) s3 ∧ (loadHd ⟨hp, 0, none⟩).run Tryz.prog s3 = .ok (.agg h.cs) s3) ∧
        (TrV w0 ub hp rb upto h (pre ++ [(r, k, n)]) [rb] s3 ∧ Only [rb] W s3) from by
      have hrv := heap_below hb (lt_of_block HR2.out) HR2.out
      have hgv := heap_below hb (lt_of_block HG2.out) HG2.out
      have hhv := heap_below hb (lt_of_block HH2.out) HH2.out
      have r1 := cell_row_any v rb 1 _ _ _ (.int .i64 (X : Nat)) hrv
      have r2 := cell_row_any s1 rb 3 _ _ _ (.int .i64 (P : Nat)) r1
      have r3 := cell_row_any s2 rb 4 _ _ _ (.int .i64 (q.used - n : Nat)) r2
      have o1 : Only [rb] v s1 := (Only.refl _ _).setCell (Or.inl (by simp)) _
      have o2 : Only [rb] v s2 := o1.setCell (Or.inl (by simp)) _
      have o3 : Only [rb] v s3 := o2.setCell (Or.inl (by simp)) _
      have n1 : W.heap.size ∉ [rb] := by simp; exact fun e => HNE.out.1 e.symm
      have n2 : hp ∉ [rb] := by simp; exact fun e => hne.1 e.symm
      have n3 : ub ∉ [rb] := by simp; exact fun e => hne.2 e.symm
      have hOW : Only [rb] W s3 := ((Only.of_below HB2.out).step_below hb).trans o3
      refine ⟨⟨cell_at hrv rfl, free_at hrv 1, cell_at r1 rfl, free_at r1 3, cell_at r2 rfl, free_at r2 4⟩,
        ⟨loadLr_at (o1.heap hgv n1) rfl, loadHd_at (o1.heap hhv n2) rfl⟩, ⟨loadLr_at (o2.heap hgv n1) rfl, loadHd_at (o2.heap hhv n2) rfl⟩, ⟨loadLr_at (o3.heap hgv n1) rfl, loadHd_at (o3.heap hhv n2) rfl⟩, ?_, hOW⟩
      refine ⟨?_, o3.heap hhv n2, ?_, HV.out.only.trans hOW, rfl⟩
      · rw [r3, HSn.out]
        unfold cutH
        simp only [HPe.out, ← HX.out]
        rfl
      · rw [hOW.cell (p := ⟨ub, 0, none⟩) (block_lt_of_cell HV.out.upto) n3]
        exact HV.out.upto)
    have hdt : decide (r.last ≤ upto) = true := by simpa using hku
    have HDT := Lib.hid hdt
    clear hr2 hh2 hg2 hX hP hqe hq hlX hdt hku hs hXI
    go_wp2_with fail
    refine wp_region_held_drew (S := fun w' => (loadLr ⟨W.heap.size, 0, none⟩).run Tryz.prog w' = .ok (.agg (lrC r.num r.unit a r.l.length cap)) w' ∧ (loadHd ⟨hp, 0, none⟩).run Tryz.prog w' = .ok (.agg h.cs) w') (by kernel_rfl) ⟨e0, e1⟩ (fun hHeld => ?_)
    refine take_at (i := 0) (v := .agg (lrC r.num r.unit a r.l.length cap)) (d := some 14) rfl rfl (by kernel_rfl) (by kernel_rfl) (by kernel_rfl) (fun _ _ _ h => h) (Or.inl ⟨by rfl, ?hyt1⟩) (by assumption) ?restt1
    case hyt1 =>
      intro W hSw
      (try dsimp only at hSw)
      go_simp
    try simp only [Act.put, List.setIfInBounds_toArray, List.set_cons_zero, List.set_cons_succ]
    refine take_at (i := 3) (v := .agg h.cs) (d := some 17) rfl rfl (by kernel_rfl) (by kernel_rfl) (by kernel_rfl) (fun _ _ _ h => h) (Or.inl ⟨by rfl, ?hyt2⟩) (by assumption) ?restt2
    case hyt2 =>
      intro W hSw
      (try dsimp only at hSw)
      go_simp
    try simp only [Act.put, List.setIfInBounds_toArray, List.set_cons_zero, List.set_cons_succ]
    refine take_at (i := 4) (v := .int .i64 k) (d := some 18) rfl rfl (by kernel_rfl) (by kernel_rfl) (by kernel_rfl) (fun _ _ _ h => h) (Or.inl ⟨by rfl, ?hyt3⟩) (by assumption) ?restt3
    case hyt3 =>
      intro W hSw
      (try dsimp only at hSw)
      go_simp
    try simp only [Act.put, List.setIfInBounds_toArray, List.set_cons_zero, List.set_cons_succ]
    refine take_at (i := 5) (v := .int .i64 n) (d := some 19) rfl rfl (by kernel_rfl) (by kernel_rfl) (by kernel_rfl) (fun _ _ _ h => h) (Or.inl ⟨by rfl, ?hyt4⟩) (by assumption) ?restt4
    case hyt4 =>
      intro W hSw
      (try dsimp only at hSw)
      go_simp
    try simp only [Act.put, List.setIfInBounds_toArray, List.set_cons_zero, List.set_cons_succ]
    refine take_at (i := 7) (v := .pointer (some ⟨rb, 4, none⟩)) (d := some 21) rfl rfl (by kernel_rfl) (by kernel_rfl) (by kernel_rfl) (fun _ _ _ h => h) (Or.inl ⟨by rfl, ?hyt5⟩) (by assumption) ?restt5
    case hyt5 =>
      intro W hSw
      (try dsimp only at hSw)
      go_simp
    try simp only [Act.put, List.setIfInBounds_toArray, List.set_cons_zero, List.set_cons_succ]
    refine take_at (i := 9) (v := .int .i64 n) (d := some 23) rfl rfl (by kernel_rfl) (by kernel_rfl) (by kernel_rfl) (fun _ _ _ h => h) (Or.inl ⟨by rfl, ?hyt6⟩) (by assumption) ?restt6
    case hyt6 =>
      intro W hSw
      (try dsimp only at hSw)
      go_simp
    try simp only [Act.put, List.setIfInBounds_toArray, List.set_cons_zero, List.set_cons_succ]
    refine wpAnyH_ready (rs := [1, 8]) (by kernel_rfl) (by simp) ?_
    refine AllReadyH.cons rfl (fun K hK => ?_) (AllReadyH.cons rfl (fun K hK => ?_) AllReadyH.nil)
    · skip
      go_simp
      refine (HLs.out _).mono ?_
      rintro e v2 ⟨rfl, hb2⟩
      have HB2 := Lib.hid (show Below W2.heap.size W2 v2 from below_drew1.trans hb2)
      have f0 := loadLr_at (heap_below HB2.out (lt_of_block HG2.out) HG2.out) rfl
      have f1 := loadHd_at (heap_below HB2.out (lt_of_block HH2.out) HH2.out) rfl
      have f4 := cell_at (i := 4) (v := .int .i64 q.used) (heap_below HB2.out (lt_of_block HR2.out) HR2.out) rfl
      clear hb2
      (try go_wp2_with fail)
      refine hK.out _ _ ⟨f0, f1⟩ (fun hHeld => ?_)
      clear hK K
      try simp only [Act.put, List.setIfInBounds_toArray, List.set_cons_zero, List.set_cons_succ]
      refine take_at (i := 2) (v := .int .i64 (X : Nat)) (d := some 16) rfl rfl (by kernel_rfl) (by kernel_rfl) (by kernel_rfl) (fun _ _ _ h => h) (Or.inl ⟨by rfl, ?hyt7⟩) (by assumption) ?restt7
      case hyt7 =>
        intro W hSw
        (try dsimp only at hSw)
        go_simp
      try simp only [Act.put, List.setIfInBounds_toArray, List.set_cons_zero, List.set_cons_succ]
      refine wpAnyH_ready (rs := [6, 8]) (by kernel_rfl) (by simp) ?_
      refine AllReadyH.cons rfl (fun K hK => ?_) (AllReadyH.cons rfl (fun K hK => ?_) AllReadyH.nil)
      · skip
        go_simp
        refine (HPl.out _).mono ?_
        rintro e v3 ⟨rfl, hb3⟩
        have HB3 := Lib.hid (HB2.out.trans (hb3.mono HB2.out.size))
        have HR3 := Lib.hid (heap_below HB3.out (lt_of_block HR2.out) HR2.out)
        have i0 := loadLr_at (heap_below HB3.out (lt_of_block HG2.out) HG2.out) rfl
        have i1 := loadHd_at (heap_below HB3.out (lt_of_block HH2.out) HH2.out) rfl
        have i4 := cell_at (i := 4) (v := .int .i64 q.used) HR3.out rfl
        clear hb3
        (try go_wp2_with fail)
        refine hK.out _ _ ⟨i0, i1⟩ (fun hHeld => ?_)
        clear hK K
        try simp only [Act.put, List.setIfInBounds_toArray, List.set_cons_zero, List.set_cons_succ]
        refine wpAnyH_ready (rs := [8]) (by kernel_rfl) (by simp) ?_
        refine AllReadyH.cons rfl (fun K hK => ?_) AllReadyH.nil
        go_simp
        (try go_wp2_with fail)
        refine hK.out _ _ ⟨i0, i1⟩ (fun hHeld => ?_)
        clear hK K
        try simp only [Act.put, List.setIfInBounds_toArray, List.set_cons_zero, List.set_cons_succ]
        refine take_at (i := 10) (v := .int .i64 (q.used - n : Nat)) (d := some 24) rfl rfl (by kernel_rfl) (by kernel_rfl) (by kernel_rfl) (fun _ _ _ h => h) (Or.inl ⟨by rfl, ?hyt8⟩) (by assumption) ?restt8
        case hyt8 =>
          intro W hSw
          (try dsimp only at hSw)
          go_simp
        try simp only [Act.put, List.setIfInBounds_toArray, List.set_cons_zero, List.set_cons_succ]
        refine take_at (i := 11) (v := .pointer (some ⟨rb, 1, none⟩)) (d := some 25) rfl rfl (by kernel_rfl) (by kernel_rfl) (by kernel_rfl) (fun _ _ _ h => h) (Or.inl ⟨by rfl, ?hyt9⟩) (by assumption) ?restt9
        case hyt9 =>
          intro W hSw
          (try dsimp only at hSw)
          go_simp
        try simp only [Act.put, List.setIfInBounds_toArray, List.set_cons_zero, List.set_cons_succ]
        have HS3 := Lib.hid (HSt.out v3 HB3.out)
        have a1 := HS3.out.1.1
        have a2 := HS3.out.1.2.1
        have a3 := HS3.out.1.2.2.1
        have a4 := HS3.out.1.2.2.2.1
        have a5 := HS3.out.1.2.2.2.2.1
        have a6 := HS3.out.1.2.2.2.2.2
        have j0 := HS3.out.2.1.1
        have j1 := HS3.out.2.1.2
        have k0 := HS3.out.2.2.1.1
        have k1 := HS3.out.2.2.1.2
        have l0 := HS3.out.2.2.2.1.1
        have l1 := HS3.out.2.2.2.1.2
        refine wpAnyH_ready (rs := [12]) (by kernel_rfl) (by simp) ?_
        refine AllReadyH.cons rfl (fun K hK => ?_) AllReadyH.nil
        go_simp
        (try go_wp2_with fail)
        refine hK.out _ _ ⟨j0, j1⟩ (fun hHeld => ?_)
        clear hK K
        try simp only [Act.put, List.setIfInBounds_toArray, List.set_cons_zero, List.set_cons_succ]
        refine take_at (i := 13) (v := .pointer (some ⟨rb, 3, none⟩)) (d := some 26) rfl rfl (by kernel_rfl) (by kernel_rfl) (by kernel_rfl) (fun _ _ _ h => h) (Or.inl ⟨by rfl, ?hyt10⟩) (by assumption) ?restt10
        case hyt10 =>
          intro W hSw
          (try dsimp only at hSw)
          go_simp
        try simp only [Act.put, List.setIfInBounds_toArray, List.set_cons_zero, List.set_cons_succ]
        refine wpAnyH_ready (rs := [14]) (by kernel_rfl) (by simp) ?_
        refine AllReadyH.cons rfl (fun K hK => ?_) AllReadyH.nil
        go_simp
        (try go_wp2_with fail)
        refine hK.out _ _ ⟨k0, k1⟩ (fun hHeld => ?_)
        clear hK K
        try simp only [Act.put, List.setIfInBounds_toArray, List.set_cons_zero, List.set_cons_succ]
        refine take_at (i := 15) (v := .pointer (some ⟨rb, 4, none⟩)) (d := some 27) rfl rfl (by kernel_rfl) (by kernel_rfl) (by kernel_rfl) (fun _ _ _ h => h) (Or.inl ⟨by rfl, ?hyt11⟩) (by assumption) ?restt11
        case hyt11 =>
          intro W hSw
          (try dsimp only at hSw)
          go_simp
        try simp only [Act.put, List.setIfInBounds_toArray, List.set_cons_zero, List.set_cons_succ]
        refine wpAnyH_ready (rs := [16]) (by kernel_rfl) (by simp) ?_
        refine AllReadyH.cons rfl (fun K hK => ?_) AllReadyH.nil
        go_simp
        (try go_wp2_with fail)
        refine hK.out _ _ ⟨l0, l1⟩ (fun hHeld => ?_)
        clear hK K
        try simp only [Act.put, List.setIfInBounds_toArray, List.set_cons_zero, List.set_cons_succ]
        refine wpAnyH_done (by kernel_rfl) ?_ _
        have HZ := Lib.hid HS3.out.2.2.2.2
        clear a1 a2 a3 a4 a5 a6 j0 j1 k0 k1 l0 l1 HS3
        go_wp2_with fail
        go_ret
        have hde := HD.out.trans HDT.out
        have hee := HE.out
        rw [HDT.out] at hee
        simp only [if_true] at hee
        subst hde hee
        exact ⟨rfl, [rb], HZ.out.1, HZ.out.2, fun x hx => Or.inl (by simpa using hx)⟩
      · skip
        go_simp
        (try go_wp2_with fail)
        refine hK.out _ _ ⟨f0, f1⟩ (fun hHeld => ?_)
        clear hK K
        try simp only [Act.put, List.setIfInBounds_toArray, List.set_cons_zero, List.set_cons_succ]
        refine take_at (i := 10) (v := .int .i64 (q.used - n : Nat)) (d := some 24) rfl rfl (by kernel_rfl) (by kernel_rfl) (by kernel_rfl) (fun _ _ _ h => h) (Or.inl ⟨by rfl, ?hyt12⟩) (by assumption) ?restt12
        case hyt12 =>
          intro W hSw
          (try dsimp only at hSw)
          go_simp
        try simp only [Act.put, List.setIfInBounds_toArray, List.set_cons_zero, List.set_cons_succ]
        refine take_at (i := 11) (v := .pointer (some ⟨rb, 1, none⟩)) (d := some 25) rfl rfl (by kernel_rfl) (by kernel_rfl) (by kernel_rfl) (fun _ _ _ h => h) (Or.inl ⟨by rfl, ?hyt13⟩) (by assumption) ?restt13
        case hyt13 =>
          intro W hSw
          (try dsimp only at hSw)
          go_simp
        try simp only [Act.put, List.setIfInBounds_toArray, List.set_cons_zero, List.set_cons_succ]
        refine wpAnyH_ready (rs := [6]) (by kernel_rfl) (by simp) ?_
        refine AllReadyH.cons rfl (fun K hK => ?_) AllReadyH.nil
        go_simp
        refine (HPl.out _).mono ?_
        rintro e v3 ⟨rfl, hb3⟩
        have HB3 := Lib.hid (HB2.out.trans (hb3.mono HB2.out.size))
        have HR3 := Lib.hid (heap_below HB3.out (lt_of_block HR2.out) HR2.out)
        have i0 := loadLr_at (heap_below HB3.out (lt_of_block HG2.out) HG2.out) rfl
        have i1 := loadHd_at (heap_below HB3.out (lt_of_block HH2.out) HH2.out) rfl
        have i4 := cell_at (i := 4) (v := .int .i64 q.used) HR3.out rfl
        clear hb3
        (try go_wp2_with fail)
        refine hK.out _ _ ⟨i0, i1⟩ (fun hHeld => ?_)
        clear hK K
        try simp only [Act.put, List.setIfInBounds_toArray, List.set_cons_zero, List.set_cons_succ]
        have HS3 := Lib.hid (HSt.out v3 HB3.out)
        have a1 := HS3.out.1.1
        have a2 := HS3.out.1.2.1
        have a3 := HS3.out.1.2.2.1
        have a4 := HS3.out.1.2.2.2.1
        have a5 := HS3.out.1.2.2.2.2.1
        have a6 := HS3.out.1.2.2.2.2.2
        have j0 := HS3.out.2.1.1
        have j1 := HS3.out.2.1.2
        have k0 := HS3.out.2.2.1.1
        have k1 := HS3.out.2.2.1.2
        have l0 := HS3.out.2.2.2.1.1
        have l1 := HS3.out.2.2.2.1.2
        refine wpAnyH_ready (rs := [12]) (by kernel_rfl) (by simp) ?_
        refine AllReadyH.cons rfl (fun K hK => ?_) AllReadyH.nil
        go_simp
        (try go_wp2_with fail)
        refine hK.out _ _ ⟨j0, j1⟩ (fun hHeld => ?_)
        clear hK K
        try simp only [Act.put, List.setIfInBounds_toArray, List.set_cons_zero, List.set_cons_succ]
        refine take_at (i := 13) (v := .pointer (some ⟨rb, 3, none⟩)) (d := some 26) rfl rfl (by kernel_rfl) (by kernel_rfl) (by kernel_rfl) (fun _ _ _ h => h) (Or.inl ⟨by rfl, ?hyt14⟩) (by assumption) ?restt14
        case hyt14 =>
          intro W hSw
          (try dsimp only at hSw)
          go_simp
        try simp only [Act.put, List.setIfInBounds_toArray, List.set_cons_zero, List.set_cons_succ]
        refine wpAnyH_ready (rs := [14]) (by kernel_rfl) (by simp) ?_
        refine AllReadyH.cons rfl (fun K hK => ?_) AllReadyH.nil
        go_simp
        (try go_wp2_with fail)
        refine hK.out _ _ ⟨k0, k1⟩ (fun hHeld => ?_)
        clear hK K
        try simp only [Act.put, List.setIfInBounds_toArray, List.set_cons_zero, List.set_cons_succ]
        refine take_at (i := 15) (v := .pointer (some ⟨rb, 4, none⟩)) (d := some 27) rfl rfl (by kernel_rfl) (by kernel_rfl) (by kernel_rfl) (fun _ _ _ h => h) (Or.inl ⟨by rfl, ?hyt15⟩) (by assumption) ?restt15
        case hyt15 =>
          intro W hSw
          (try dsimp only at hSw)
          go_simp
        try simp only [Act.put, List.setIfInBounds_toArray, List.set_cons_zero, List.set_cons_succ]
        refine wpAnyH_ready (rs := [16]) (by kernel_rfl) (by simp) ?_
        refine AllReadyH.cons rfl (fun K hK => ?_) AllReadyH.nil
        go_simp
        (try go_wp2_with fail)
        refine hK.out _ _ ⟨l0, l1⟩ (fun hHeld => ?_)
        clear hK K
        try simp only [Act.put, List.setIfInBounds_toArray, List.set_cons_zero, List.set_cons_succ]
        refine wpAnyH_done (by kernel_rfl) ?_ _
        have HZ := Lib.hid HS3.out.2.2.2.2
        clear a1 a2 a3 a4 a5 a6 j0 j1 k0 k1 l0 l1 HS3
        go_wp2_with fail
        go_ret
        have hde := HD.out.trans HDT.out
        have hee := HE.out
        rw [HDT.out] at hee
        simp only [if_true] at hee
        subst hde hee
        exact ⟨rfl, [rb], HZ.out.1, HZ.out.2, fun x hx => Or.inl (by simpa using hx)⟩
    · skip
      go_simp
      (try go_wp2_with fail)
      refine hK.out _ _ ⟨e0, e1⟩ (fun hHeld => ?_)
      clear hK K
      try simp only [Act.put, List.setIfInBounds_toArray, List.set_cons_zero, List.set_cons_succ]
      refine take_at (i := 10) (v := .int .i64 (q.used - n : Nat)) (d := some 24) rfl rfl (by kernel_rfl) (by kernel_rfl) (by kernel_rfl) (fun _ _ _ h => h) (Or.inl ⟨by rfl, ?hyt16⟩) (by assumption) ?restt16
      case hyt16 =>
        intro W hSw
        (try dsimp only at hSw)
        go_simp
      try simp only [Act.put, List.setIfInBounds_toArray, List.set_cons_zero, List.set_cons_succ]
      refine wpAnyH_ready (rs := [1]) (by kernel_rfl) (by simp) ?_
      refine AllReadyH.cons rfl (fun K hK => ?_) AllReadyH.nil
      go_simp
      refine (HLs.out _).mono ?_
      rintro e v2 ⟨rfl, hb2⟩
      have HB2 := Lib.hid (show Below W2.heap.size W2 v2 from below_drew1.trans hb2)
      have f0 := loadLr_at (heap_below HB2.out (lt_of_block HG2.out) HG2.out) rfl
      have f1 := loadHd_at (heap_below HB2.out (lt_of_block HH2.out) HH2.out) rfl
      have f4 := cell_at (i := 4) (v := .int .i64 q.used) (heap_below HB2.out (lt_of_block HR2.out) HR2.out) rfl
      clear hb2
      (try go_wp2_with fail)
      refine hK.out _ _ ⟨f0, f1⟩ (fun hHeld => ?_)
      clear hK K
      try simp only [Act.put, List.setIfInBounds_toArray, List.set_cons_zero, List.set_cons_succ]
      refine take_at (i := 2) (v := .int .i64 (X : Nat)) (d := some 16) rfl rfl (by kernel_rfl) (by kernel_rfl) (by kernel_rfl) (fun _ _ _ h => h) (Or.inl ⟨by rfl, ?hyt17⟩) (by assumption) ?restt17
      case hyt17 =>
        intro W hSw
        (try dsimp only at hSw)
        go_simp
      try simp only [Act.put, List.setIfInBounds_toArray, List.set_cons_zero, List.set_cons_succ]
      refine take_at (i := 11) (v := .pointer (some ⟨rb, 1, none⟩)) (d := some 25) rfl rfl (by kernel_rfl) (by kernel_rfl) (by kernel_rfl) (fun _ _ _ h => h) (Or.inl ⟨by rfl, ?hyt18⟩) (by assumption) ?restt18
      case hyt18 =>
        intro W hSw
        (try dsimp only at hSw)
        go_simp
      try simp only [Act.put, List.setIfInBounds_toArray, List.set_cons_zero, List.set_cons_succ]
      refine wpAnyH_ready (rs := [6]) (by kernel_rfl) (by simp) ?_
      refine AllReadyH.cons rfl (fun K hK => ?_) AllReadyH.nil
      go_simp
      refine (HPl.out _).mono ?_
      rintro e v3 ⟨rfl, hb3⟩
      have HB3 := Lib.hid (HB2.out.trans (hb3.mono HB2.out.size))
      have HR3 := Lib.hid (heap_below HB3.out (lt_of_block HR2.out) HR2.out)
      have i0 := loadLr_at (heap_below HB3.out (lt_of_block HG2.out) HG2.out) rfl
      have i1 := loadHd_at (heap_below HB3.out (lt_of_block HH2.out) HH2.out) rfl
      have i4 := cell_at (i := 4) (v := .int .i64 q.used) HR3.out rfl
      clear hb3
      (try go_wp2_with fail)
      refine hK.out _ _ ⟨i0, i1⟩ (fun hHeld => ?_)
      clear hK K
      try simp only [Act.put, List.setIfInBounds_toArray, List.set_cons_zero, List.set_cons_succ]
      have HS3 := Lib.hid (HSt.out v3 HB3.out)
      have a1 := HS3.out.1.1
      have a2 := HS3.out.1.2.1
      have a3 := HS3.out.1.2.2.1
      have a4 := HS3.out.1.2.2.2.1
      have a5 := HS3.out.1.2.2.2.2.1
      have a6 := HS3.out.1.2.2.2.2.2
      have j0 := HS3.out.2.1.1
      have j1 := HS3.out.2.1.2
      have k0 := HS3.out.2.2.1.1
      have k1 := HS3.out.2.2.1.2
      have l0 := HS3.out.2.2.2.1.1
      have l1 := HS3.out.2.2.2.1.2
      refine wpAnyH_ready (rs := [12]) (by kernel_rfl) (by simp) ?_
      refine AllReadyH.cons rfl (fun K hK => ?_) AllReadyH.nil
      go_simp
      (try go_wp2_with fail)
      refine hK.out _ _ ⟨j0, j1⟩ (fun hHeld => ?_)
      clear hK K
      try simp only [Act.put, List.setIfInBounds_toArray, List.set_cons_zero, List.set_cons_succ]
      refine take_at (i := 13) (v := .pointer (some ⟨rb, 3, none⟩)) (d := some 26) rfl rfl (by kernel_rfl) (by kernel_rfl) (by kernel_rfl) (fun _ _ _ h => h) (Or.inl ⟨by rfl, ?hyt19⟩) (by assumption) ?restt19
      case hyt19 =>
        intro W hSw
        (try dsimp only at hSw)
        go_simp
      try simp only [Act.put, List.setIfInBounds_toArray, List.set_cons_zero, List.set_cons_succ]
      refine wpAnyH_ready (rs := [14]) (by kernel_rfl) (by simp) ?_
      refine AllReadyH.cons rfl (fun K hK => ?_) AllReadyH.nil
      go_simp
      (try go_wp2_with fail)
      refine hK.out _ _ ⟨k0, k1⟩ (fun hHeld => ?_)
      clear hK K
      try simp only [Act.put, List.setIfInBounds_toArray, List.set_cons_zero, List.set_cons_succ]
      refine take_at (i := 15) (v := .pointer (some ⟨rb, 4, none⟩)) (d := some 27) rfl rfl (by kernel_rfl) (by kernel_rfl) (by kernel_rfl) (fun _ _ _ h => h) (Or.inl ⟨by rfl, ?hyt20⟩) (by assumption) ?restt20
      case hyt20 =>
        intro W hSw
        (try dsimp only at hSw)
        go_simp
      try simp only [Act.put, List.setIfInBounds_toArray, List.set_cons_zero, List.set_cons_succ]
      refine wpAnyH_ready (rs := [16]) (by kernel_rfl) (by simp) ?_
      refine AllReadyH.cons rfl (fun K hK => ?_) AllReadyH.nil
      go_simp
      (try go_wp2_with fail)
      refine hK.out _ _ ⟨l0, l1⟩ (fun hHeld => ?_)
      clear hK K
      try simp only [Act.put, List.setIfInBounds_toArray, List.set_cons_zero, List.set_cons_succ]
      refine wpAnyH_done (by kernel_rfl) ?_ _
      have HZ := Lib.hid HS3.out.2.2.2.2
      clear a1 a2 a3 a4 a5 a6 j0 j1 k0 k1 l0 l1 HS3
      go_wp2_with fail
      go_ret
      have hde := HD.out.trans HDT.out
      have hee := HE.out
      rw [HDT.out] at hee
      simp only [if_true] at hee
      subst hde hee
      exact ⟨rfl, [rb], HZ.out.1, HZ.out.2, fun x hx => Or.inl (by simpa using hx)⟩
  · have hkI : upto < r.num + (r.l.length : Int) - 1 := by have := HLast.out; omega
    have hdt : decide (r.last ≤ upto) = false := by simpa using hku
    have HZ := Lib.hid (HV.out.below HB2.out)
    have HDT := Lib.hid hdt
    clear hg2 hku hs hdt hq
    go_wp2_with fail
    go_ret
    have hde := HD.out.trans HDT.out
    have hee := HE.out
    rw [HDT.out] at hee
    simp only [Bool.false_eq_true, if_false] at hee
    subst hde hee
    exact ⟨rfl, [rb], HZ.out, Only.of_below HB2.out, fun x hx => Or.inl (by simpa using hx)⟩
end
end

section
open Go.RowKit Go.Sort

theorem beginV_none (A B : Cp) : (beginV A B).a.isNone = A.isNone ∧ (beginV A B).b.isNone = B.isNone := by
  have hA : ∀ x, (bgA A B x).a.isNone = A.isNone ∧ (bgA A B x).b.isNone = B.isNone := fun x => by
    cases A <;> cases B <;> exact ⟨rfl, rfl⟩
  have hB : ∀ x, (bgB A B x).a.isNone = A.isNone ∧ (bgB A B x).b.isNone = B.isNone := fun x => by
    cases A <;> cases B <;> exact ⟨rfl, rfl⟩
  unfold beginV
  split
  · exact ⟨rfl, rfl⟩
  · cases hdC A with
    | none => cases hdC B with
      | none => exact ⟨rfl, rfl⟩
      | some y => exact hB y
    | some x => cases hdC B with
      | none => exact hA x
      | some y =>
        simp only
        split
        · exact hA x
        · split
          · exact hB y
          · exact ⟨rfl, rfl⟩
theorem walkW_ge (A B : Cp) (h : Hw) (p : Rc → Bool) : ∀ (f at' number : Nat) (x : Rc × Nat × Nat), x ∈ (walkW A B h p f at' number).1 → (number : Int) ≤ x.1.last
  | 0, _, _, x, hx => by simp [walkW] at hx
  | f + 1, at', number, x, hx => by
    unfold walkW at hx
    split at hx
    · cases hr : recW A B h at' number with
      | none => rw [hr] at hx; simp at hx
      | some q =>
        obtain ⟨r, n⟩ := q
        obtain ⟨h1, h2, _⟩ := recW_ok hr
        obtain ⟨_, h3, _⟩ := Rc.sound_num h2
        have hl : r.last = r.num + r.l.length - 1 := rfl
        rw [hr] at hx
        simp only at hx
        split at hx
        · rcases List.mem_cons.1 hx with rfl | hx
          · simp only; omega
          · have := walkW_ge A B h p f _ _ x hx
            omega
        · simp at hx
    · simp at hx
theorem restW_first (h : Hw) (l : List (Rc × Nat × Nat)) (hl : ∀ x ∈ l, (h.first : Int) ≤ x.1.last) : (restW h l = h) ↔ l = [] := by
  rcases List.eq_nil_or_concat l with rfl | ⟨l, x, rfl⟩
  · simp [restW]
  · rw [List.concat_eq_append] at hl ⊢
    have := hl x (by simp)
    constructor
    · intro e
      rw [restW_snoc] at e
      have e1 := congrArg Hw.first e
      simp only [cutH] at e1
      omega
    · intro e
      simp at e
theorem Hw.eq_int {g h : Hw} (h1 : (g.n : Int) = h.n) (h2 : (g.first : Int) = h.first) (h3 : (g.next : Int) = h.next) (h4 : (g.at' : Int) = h.at') (h5 : (g.used : Int) = h.used) : g = h := by
  obtain ⟨a, b, c, d, i⟩ := h
  obtain ⟨a', b', c', d', i'⟩ := g
  simp only [Hw.mk.injEq] at h1 h2 h3 h4 h5 ⊢
  omega
theorem restF_used (h : Hw) : ∀ (l : List (Rc × Nat × Nat)) (g : Hw), (l.foldl (fun g x => { g with first := x.1.last.toNat + 1, at' := h.place x.2.1 x.2.2, used := g.used - x.2.2 }) g).used ≤ g.used
  | [], _ => Nat.le_refl _
  | x :: l, g => Nat.le_trans (restF_used h l { g with first := x.1.last.toNat + 1, at' := h.place x.2.1 x.2.2, used := g.used - x.2.2 }) (Nat.sub_le _ _)
theorem restW_used (h : Hw) (l : List (Rc × Nat × Nat)) : (restW h l).used ≤ h.used := restF_used h l h
section
attribute [local go_sem ↓] loadHd_down storeHd_down loadLr_down storeLr_down
set_option maxRecDepth 100000 in
set_option maxHeartbeats 8000000 in
theorem trim_w (w : World) (lb : Nat) (ka kb : Bk) (A B : Cp) (upto : Int) (_hu : I64 upto) (hL : LgAt w lb ka kb A B) (H : BgH A B) (HF : (beginV A B).e = 0 → HdFit (beginV A B).h (beginV A B).a (beginV A B).b)
    (HT : (beginV A B).e = 0 → ∀ pre x post, (walkV (beginV A B).a (beginV A B).b (beginV A B).h (fun r => decide (r.last ≤ upto))).1 = pre ++ x :: post → x.2.2 ≤ (restW (beginV A B).h pre).used)
    (HO : (beginV A B).e = 0 → HwOk (restW (beginV A B).h (walkV (beginV A B).a (beginV A B).b (beginV A B).h (fun r => decide (r.last ≤ upto))).1)) :
    Calls Tryz.prog 39 #[.pointer (some ⟨lb, 0, none⟩), .int .i64 upto] w fun e w' =>
      e = .returned (.int .i64 (trimV A B upto).1) ∧ LgAt w' lb ka kb (trimV A B upto).2.1 (trimV A B upto).2.2 ∧ Only (fS ka kb A B) w w' := by
  obtain ⟨w1, hw1⟩ : ∃ w1, w1 = w.alloc (.cells #[.int .i64 upto] 3) := ⟨_, rfl⟩
  have hg1 : w1.heap[w.heap.size]? = some (.cells #[.int .i64 upto] 3 (0, 0)) := by rw [hw1]; exact heap_alloc_new _ _
  have hb1 : Below w.heap.size w w1 := by rw [hw1]; exact box_below0 _ _ _
  have hL1 := hL.below hb1
  have HBg := Lib.hid (begin_w w1 lb ka kb A B hL1 H.ha H.hb H.hx H.hy)
  have HK := Lib.hid (@beginV_ok A B)
  have HFs := Lib.hid (fS_eq (ka := ka) (kb := kb) (beginV_none A B).1 (beginV_none A B).2)
  have HRV := Lib.hid (show trimV A B upto = (let g := beginV A B
      if g.e ≠ 0 then (g.e, g.a, g.b) else
      let q := walkV g.a g.b g.h (fun r => decide (r.last ≤ upto))
      if q.2 = false then (11, g.a, g.b) else if q.1 = [] then (0, g.a, g.b) else headsV g.a g.b (restW g.h q.1)) from rfl)
  have HG1 := Lib.hid hg1
  have HB1 := Lib.hid hb1
  have HW := Lib.hid hw1
  have HF := Lib.hid HF
  have HT := Lib.hid HT
  have HO := Lib.hid HO
  have hnew := hL.new (Nat.le_refl w.heap.size)
  have HNW := Lib.hid (And.intro hnew (show w.heap.size ≠ lb from fun e => by have := lt_of_block hL.row; omega))
  clear hw1 hg1 hb1 hL1 hL H hnew
  generalize trimV A B upto = R at HRV ⊢
  generalize beginV A B = g at HBg HK HRV HF HT HO HFs
  obtain ⟨h, er, A', B'⟩ := g
  simp only at HBg HK HRV HF HT HO HFs
  go_enter Tryz.func39, Tryz.ntmps39
  go_upto_region 1 with fail
  rw [← HW.out]
  go_wp2_with fail
  refine HBg.out.mono ?_
  rintro e w2 ⟨rfl, hL2, ho2⟩
  obtain ⟨w3, st3, hg3, hb3⟩ := put_hd w2 h.cs rfl (by simp [Value.oneCell'])
  have HL3 := Lib.hid (hL2.below hb3)
  have HO3 := Lib.hid (((Only.of_below (S := fS ka kb A B) HB1.out).trans ho2).step_below hb3)
  have hfs : w.heap.size ∉ fS ka kb A B := fun hm => (fS_mem hm).elim HNW.out.1.1 HNW.out.1.2
  have hf3 := heap_below hb3 (lt_of_block (ho2.heap HG1.out hfs)) (ho2.heap HG1.out hfs)
  have HF3 := Lib.hid hf3
  by_cases he : er = 0
  · subst he
    have ok := HK.out rfl
    have hf := HF.out rfl
    have hT := HT.out rfl
    have hO := HO.out rfl
    have HH3 := Lib.hid hg3
    have ld3 := loadHd_at hg3 rfl
    simp only [ne_eq, not_true_eq_false, if_false] at HRV
    obtain ⟨w4, st4, hg4, hb4⟩ := put_hd w3 h.cs rfl (by simp [Value.oneCell'])
    have hL4 := HL3.out.below hb4
    have hn3 := HL3.out.new (Nat.le_refl w3.heap.size)
    have hf4 := heap_below hb4 (lt_of_block HF3.out) HF3.out
    have hh4 := heap_below hb4 (lt_of_block HH3.out) HH3.out
    have ld4 := loadHd_at hh4 rfl
    have hsz : w.heap.size < w2.heap.size ∧ w2.heap.size < w3.heap.size ∧ lb < w3.heap.size := ⟨Nat.lt_of_lt_of_le (lt_of_block HG1.out) ho2.size, lt_of_block HH3.out, lt_of_block HL3.out.row⟩
    have HWk := Lib.hid (walkT_w w4 lb ka kb A' B' h w.heap.size w2.heap.size w3.heap.size (fun r => decide (r.last ≤ upto)) (TrV w4 w.heap.size w2.heap.size w3.heap.size upto h) [w3.heap.size] hL4 hf ok.at' ok.first ok.next
      (fun x hx => by rw [List.mem_singleton] at hx; subst hx; exact ⟨lt_of_block hg4, fun e => by omega, hn3.1, hn3.2⟩)
      (fun pre S W W' hv hb => hv.below hb)
      ⟨hg4, hh4, cell_at hf4 rfl, Only.refl _ _, rfl⟩
      (fun pre S W r a cap k n hv _ _ _ _ hs hk1 hk2 hn _ hpost =>
        trim1_w w4 w.heap.size w2.heap.size w3.heap.size upto h ok.n (lt_of_block hg4) ⟨by omega, by omega⟩ pre S W r a cap k n hv hs ⟨hk1, hk2⟩ hn (fun hle => by
          obtain ⟨post, hpo⟩ := hpost (by simpa using hle)
          have h1 := restW_used h pre
          have h2 := ok.used
          have h3 := ok.n
          exact ⟨by omega, hT pre _ post hpo⟩)))
    have HEq := Lib.hid (restW_first h (walkV A' B' h (fun r => decide (r.last ≤ upto))).1 (fun x hx => walkW_ge _ _ _ _ _ _ _ x hx))
    have HO4 := Lib.hid (HO3.out.step_below hb4)
    have HL4 := Lib.hid hL4
    have HS4 := Lib.hid (show w.heap.size ≤ w3.heap.size ∧ w.heap.size ≤ w4.heap.size from ⟨HO3.out.size, Nat.le_trans HO3.out.size hb4.size⟩)
    have HN3 := Lib.hid (And.intro hn3 (show lb ≠ w3.heap.size from fun e => by omega))
    clear hg4 hb4 hL4 hn3 hf4 hh4 ok hf hT hsz hg3
    generalize walkV A' B' h (fun r => decide (r.last ≤ upto)) = q at HWk HRV HEq hO
    obtain ⟨tot, okk⟩ := q
    simp only at HWk HRV HEq hO
    have HOk := Lib.hid hO
    clear hO hL2 ho2 hb3 hf3 hfs
    go_upto_region 5 with fail
    go_wp2_with fail
    cases okk with
    | true =>
      simp only [if_true] at HWk HRV
      refine HWk.out.mono ?_
      rintro e w5 ⟨rfl, ⟨S', hV5, _⟩, ho5⟩
      have ldr := loadHd_at hV5.rest rfl
      have ldh := loadHd_at hV5.hd rfl
      have HL5 := Lib.hid (show LgAt w5 lb ka kb A' B' from ⟨ho5.heap HL4.out.row (by rw [List.mem_singleton]; exact HN3.out.2), HL4.out.a.only ho5 (fun x hx hm => by rw [List.mem_singleton] at hm; subst hm; exact HN3.out.1.1 hx), HL4.out.b.only ho5 (fun x hx hm => by rw [List.mem_singleton] at hm; subst hm; exact HN3.out.1.2 hx), HL4.out.dis, fun x hx => Nat.lt_of_lt_of_le (HL4.out.lt x hx) ho5.size, HL4.out.lbn⟩)
      have HO5 := Lib.hid (show Only (fS ka kb A B) w w5 from HO4.out.then ho5 (fun x hx => Or.inr (by rw [List.mem_singleton] at hx; rw [hx]; exact HS4.out.1)))
      have HHd := Lib.hid (heads_w w5 lb ka kb A' B' (restW h tot) HOk.out HL5.out)
      clear hV5 ho5 ld4 ld3 st3 st4
      generalize restW h tot = g at HHd HEq HRV ldr
      by_cases ht : tot = []
      · have hgh : g = h := HEq.out.2 ht
        have HR := Lib.hid (show R = (0, A', B') by rw [HRV.out]; simp [ht])
        subst hgh
        clear ht
        go_wp2_with fail
        go_ret
        exact ⟨by rw [HR.out]; rfl, by rw [HR.out]; exact HL5.out, HO5.out⟩
      · have hgh : ¬ g = h := fun e => ht (HEq.out.1 e)
        have HR := Lib.hid (show R = headsV A' B' g by rw [HRV.out]; simp [ht])
        clear ht
        go_wp2_with fail
        all_goals first
          | exact hgh.elim (Hw.eq_int (by assumption) (by assumption) (by assumption) (by assumption) (by assumption))
          | (
            refine HHd.out.mono ?_
            rintro e w6 ⟨rfl, hL6, ho6⟩
            have HL6 := Lib.hid hL6
            have HO6 := Lib.hid (show Only (fS ka kb A B) w w6 from HO5.out.trans (by rw [← HFs.out]; exact ho6))
            clear hL6 ho6
            go_wp2_with fail
            go_ret
            exact ⟨by rw [HR.out]; rfl, by rw [HR.out]; exact HL6.out, HO6.out⟩)
    | false =>
      simp only [Bool.false_eq_true, if_false] at HWk HRV
      refine HWk.out.mono ?_
      rintro e w5 ⟨rfl, ⟨S', hV5, _⟩, ho5⟩
      have HFin := Lib.hid (show LgAt w5 lb ka kb A' B' ∧ Only (fS ka kb A B) w w5 from
        ⟨⟨ho5.heap HL4.out.row (by rw [List.mem_singleton]; exact HN3.out.2), HL4.out.a.only ho5 (fun x hx hm => by rw [List.mem_singleton] at hm; subst hm; exact HN3.out.1.1 hx), HL4.out.b.only ho5 (fun x hx hm => by rw [List.mem_singleton] at hm; subst hm; exact HN3.out.1.2 hx), HL4.out.dis, fun x hx => Nat.lt_of_lt_of_le (HL4.out.lt x hx) ho5.size, HL4.out.lbn⟩,
          HO4.out.then ho5 (fun x hx => Or.inr (by rw [List.mem_singleton] at hx; rw [hx]; exact HS4.out.1))⟩)
      clear hV5 ho5 ld4 ld3 st3 st4
      have HR := Lib.hid (show R = (11, A', B') by rw [HRV.out]; rfl)
      go_wp2_with fail
      go_ret
      exact ⟨by rw [HR.out]; rfl, by rw [HR.out]; exact HFin.out.1, HFin.out.2⟩
  · have hb0 : (er != 0) = true := by rw [bne_iff_ne]; exact he
    have HR := Lib.hid (show R = (er, A', B') by rw [HRV.out]; exact if_pos he)
    clear hL2 ho2 hg3 hb3 hf3 he
    go_wp2_with fail
    go_ret
    exact ⟨by rw [HR.out]; rfl, by rw [HR.out]; exact HL3.out, HO3.out⟩
end
end

end Go.Proofs.YtjpkdhnponcciaaGreatDoor

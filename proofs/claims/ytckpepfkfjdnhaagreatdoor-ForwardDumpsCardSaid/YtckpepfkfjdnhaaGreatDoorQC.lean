/-
  Walks: the program's form of a segment. Condition: texts of at most 65000 bytes; the table of codes is laid.
  Walks: the program's form of a segment. Condition: texts of at most 60000 bytes; the table of codes is laid.
  Walks: the parts of a record. No condition.
  Walks: a record behind a block, as the program adds it. Conditions: block sizes of 9 to 1024, texts of at most 2000 bytes; the table of codes is laid.
-/
import Derived.Test.YtckpepfkfjdnhaaGreatDoorQB
namespace Go.Proofs.YtckpepfkfjdnhaaGreatDoor

section
open Go.RowKit
attribute [local go_sem] ByteArray.mk_append_mk strOfNums_size ext_drop ext_take

/-- The program's table of codes lies as it was laid. -/
structure Codes (w : World) : Prop where
 pos : 1 < w.heap.size
 c0 : w.cell? ⟨1, 0, none⟩ = some (.bool false)
 c1 : w.cell? ⟨1, 1, none⟩ = some (.bool false)
 c2 : w.cell? ⟨1, 2, none⟩ = some (.bool false)
 c3 : w.cell? ⟨1, 3, none⟩ = some (.bool true)
 c4 : w.cell? ⟨1, 4, none⟩ = some (.bool true)
 c5 : w.cell? ⟨1, 5, none⟩ = some (.bool false)
 c6 : w.cell? ⟨1, 6, none⟩ = some (.bool true)
 c7 : w.cell? ⟨1, 7, none⟩ = some (.bool true)
theorem Codes.below {w w' : World} (h : Codes w) {B : Nat} (hb : Below B w w') (hB : 1 < B) : Codes w' :=
 ⟨Nat.lt_of_lt_of_le h.pos hb.size, (hb.cell (p := ⟨1, 0, none⟩) hB).trans h.c0, (hb.cell (p := ⟨1, 1, none⟩) hB).trans h.c1, (hb.cell (p := ⟨1, 2, none⟩) hB).trans h.c2, (hb.cell (p := ⟨1, 3, none⟩) hB).trans h.c3,
  (hb.cell (p := ⟨1, 4, none⟩) hB).trans h.c4, (hb.cell (p := ⟨1, 5, none⟩) hB).trans h.c5, (hb.cell (p := ⟨1, 6, none⟩) hB).trans h.c6, (hb.cell (p := ⟨1, 7, none⟩) hB).trans h.c7⟩
def idxBA (b a : Bool) : Nat := if b then (if a then 3 else 2) else (if a then 1 else 0)

theorem eq_pair (x y u v : Bool) (w : World) : (binOp .eql 271 (.agg #[.bool x, .bool y]) (.agg #[.bool u, .bool v])).run Tryz.prog w = .ok (.bool (x == u && y == v)) w := by
 cases x <;> cases y <;> cases u <;> cases v <;> kernel_rfl

set_option maxRecDepth 100000 in
set_option maxHeartbeats 2000000 in
theorem index_any (b a : Bool) (w : World) (hc : Codes w) :
   Calls Tryz.prog 257 #[.slice (some ⟨1, 0, none⟩) 4 4, .agg #[.bool b, .bool a]] w fun e w' => e = .returned (.int .i64 (idxBA b a : Nat)) ∧ Below w.heap.size w w' := by
 have heq := eq_pair
 have hb0 : Below w.heap.size w (w.alloc (.cells #[.bool b, .bool a] 271)) := (Below.refl _ _).alloc (Nat.le_refl _) _
 have hg0 := heap_alloc_new w (.cells #[.bool b, .bool a] 271)
 have hc0 := hc.below hb0 hc.pos
 go_enter Tryz.func257, Tryz.ntmps257
 go_wp2
 generalize w.alloc (.cells #[.bool b, .bool a] 271) = w1 at hb0 hg0 hc0 ⊢
 go_loopw [5, 8] (fun _ k wr => ∃ j : Nat, j ≤ idxBA b a ∧ k = .int .i64 j ∧ Below w1.heap.size w1 wr) (fun _ k _ => 4 - (intOf k).toNat)
 case atStart => exact ⟨0, by omega, rfl, Below.refl _ _⟩
 case round =>
   obtain ⟨j, hj, rfl, hb⟩ := hrel
   have hw1 : w.heap.size < w1.heap.size := lt_of_block hg0
   obtain ⟨_, c0, c1, c2, c3, c4, c5, c6, c7⟩ := hc0.below hb hc0.pos
   have hg := heap_below hb hw1 hg0
   have x0 := cell_at (i := 0) hg rfl
   have x1 := cell_at (i := 1) hg rfl
   have HB := Lib.hid (hb0.trans (hb.mono hb0.size))
   have HB1 := Lib.hid hb
   clear hb0 hg0 hc0 hb hg hc hw1
   have hj3 : j = 0 ∨ j = 1 ∨ j = 2 ∨ j = 3 := by
     have : idxBA b a ≤ 3 := by cases b <;> cases a <;> decide
     omega
   cases b
   all_goals
     cases a
     all_goals
       simp only [idxBA, if_true, if_false, Bool.false_eq_true] at hj ⊢
       rcases hj3 with rfl | rfl | rfl | rfl
       all_goals
         first
           | (exfalso; omega)
           | (go_wp2_with fail
              go_quiet (fail)
              go_wp2
              first
                | (go_ret; exact ⟨ret_int (by simp [idxBA]), below_drewN HB.out _⟩)
                | (go_roundw
                   case rel => first | exact ⟨1, by decide, rfl, below_drewN HB1.out _⟩ | exact ⟨2, by decide, rfl, below_drewN HB1.out _⟩ | exact ⟨3, by decide, rfl, below_drewN HB1.out _⟩
                   case measure => simp [intOf]))
end

section
open Go.RowKit Go.Sort
attribute [local go_sem] ByteArray.mk_append_mk strOfNums_size ext_drop ext_take

theorem str_seg2 (b a : Bool) (n : Nat) (c : Int) (hc : UInt8.ofNat c.toNat = code b a) : strOfNums [((n : Int) + 4) / 256, ((n : Int) + 4) % 256, c, 0] = bs [b8 ((n + 4) / 256), b8 ((n + 4) % 256), code b a, 0] := by
 rw [Int.add_comm]; exact str_seg b a n c hc

set_option maxRecDepth 100000 in
set_option maxHeartbeats 2000000 in
theorem sform_any (b a : Bool) (d : By) (w : World) (hc : Codes w) (h : d.length ≤ 60000) :
   Calls Tryz.prog 235 #[.agg #[.bool b, .bool a, .string ⟨d.toArray⟩]] w fun e w' => e = .returned (.string (bs (segF b a d))) ∧ Below w.heap.size w w' := by
 have hb0 : Below w.heap.size w (w.alloc (.cells #[.bool b, .bool a, .string ⟨d.toArray⟩] 268)) := (Below.refl _ _).alloc (Nat.le_refl _) _
 have hg0 := heap_alloc_new w (.cells #[.bool b, .bool a, .string ⟨d.toArray⟩] 268)
 have hc0 := hc.below hb0 hc.pos
 have HD := Lib.hid (show bs [b8 ((d.length + 4) / 256), b8 ((d.length + 4) % 256), code b a, 0] ++ bs d = bs (segF b a d) from ByteArray.mk_append_mk _ _)
 go_enter Tryz.func235, Tryz.ntmps235
 go_wp2_with fail
 generalize w.alloc (.cells #[.bool b, .bool a, .string ⟨d.toArray⟩] 268) = w1 at hb0 hg0 hc0 ⊢
 have x0 := cell_at (i := 0) hg0 rfl
 have x1 := cell_at (i := 1) hg0 rfl
 have y0 : ∀ dq osq, (grow (redrawn w1 dq) osq).cell? ⟨w.heap.size, 0, none⟩ = some (.bool b) := fun dq osq => ((below_regrown w1 dq osq).cell (p := ⟨w.heap.size, 0, none⟩) (lt_of_block hg0)).trans x0
 have y1 : ∀ dq osq, (grow (redrawn w1 dq) osq).cell? ⟨w.heap.size, 1, none⟩ = some (.bool a) := fun dq osq => ((below_regrown w1 dq osq).cell (p := ⟨w.heap.size, 1, none⟩) (lt_of_block hg0)).trans x1
 have HB := Lib.hid hb0
 have HC := Lib.hid hc0
 have HG := Lib.hid hg0
 clear hb0 hc0 hg0
 refine wp_region_quiet_below (by kernel_rfl) (by kernel_rfl) ?_
 cases b
 all_goals
   cases a
   all_goals
     repeat (go_big_quiet_step ((go_at_call 257; exact Calls.regrown_of (index_any _ _ _ (HC.out.below (below_regrown _ _ _) HC.out.pos)))))
     refine wpQuiet_nil ?_
     intro _ hw'
     obtain ⟨⟨dq, osq⟩, hw''⟩ := hw'
     subst hw''
     have hb2 := below_regrown w1 dq osq
     have hg2 := heap_below hb2 (lt_of_block HG.out) HG.out
     clear x0 x1 y0 y1
     generalize grow (redrawn w1 dq) osq = w2 at hb2 hg2 ⊢
     have x2 := cell_at (i := 2) hg2 rfl
     have hlt2 : w.heap.size < w2.heap.size := lt_of_block hg2
     have hcv := fun a b c d => conv4 a b c d w2
     have HB2 := Lib.hid (HB.out.trans (hb2.mono HB.out.size))
     clear hb2 hg2
     simp only [idxBA, if_true, if_false, Bool.false_eq_true]
     go_wp2
     go_ret
     refine ⟨ret_str ?_, HB2.out.alloc HB2.out.size _⟩
     rw [← HD.out]
     first | rw [str_seg2 _ _ d.length _ code_ff] | rw [str_seg2 _ _ d.length _ code_ft] | rw [str_seg2 _ _ d.length _ code_tf] | rw [str_seg2 _ _ d.length _ code_tt]
end

section
open Go.RowKit Go.Sort
attribute [local go_sem] ByteArray.mk_append_mk strOfNums_size ext_drop ext_take

structure PartSt (w : World) (b1 b2 b3 : Nat) (r : By) (bg dn : Bool) : Prop where
 rcd : w.heap[b1]? = some (.cells #[.string ⟨r.toArray⟩] 9)
 beg : w.heap[b2]? = some (.cells #[.bool bg] 4)
 don : w.heap[b3]? = some (.cells #[.bool dn] 4)
 h12 : b1 ≠ b2
 h13 : b1 ≠ b3
 h23 : b2 ≠ b3

set_option maxRecDepth 100000 in
set_option maxHeartbeats 400000 in
theorem parts_any (r : By) (w : World) :
   Calls Tryz.prog 233 #[.string ⟨r.toArray⟩] w fun e w' => e = .returned (.func (.func 256) #[] #[.pointer (some ⟨w.heap.size + 1 + 1, 0, none⟩), .pointer (some ⟨w.heap.size, 0, none⟩), .pointer (some ⟨w.heap.size + 1, 0, none⟩)]) ∧
     PartSt w' w.heap.size (w.heap.size + 1) (w.heap.size + 1 + 1) r false false ∧ Below w.heap.size w w' := by
 have hb : Below w.heap.size w (((w.alloc (.cells #[.string ⟨r.toArray⟩] 9)).alloc (.cells #[.bool false] 4)).alloc (.cells #[.bool false] 4)) := (((Below.refl _ _).alloc (by simp) _).alloc (by simp) _).alloc (by simp; omega) _
 have h1 : (((w.alloc (.cells #[.string ⟨r.toArray⟩] 9)).alloc (.cells #[.bool false] 4)).alloc (.cells #[.bool false] 4)).heap[w.heap.size]? = some (.cells #[.string ⟨r.toArray⟩] 9) := by
   rw [halloc _ _ (by simp; omega), halloc _ _ (by simp)]; exact heap_alloc_new _ _
 have h2 : (((w.alloc (.cells #[.string ⟨r.toArray⟩] 9)).alloc (.cells #[.bool false] 4)).alloc (.cells #[.bool false] 4)).heap[w.heap.size + 1]? = some (.cells #[.bool false] 4) := by
   rw [halloc _ _ (by simp)]
   have := heap_alloc_new (w.alloc (.cells #[.string ⟨r.toArray⟩] 9)) (.cells #[.bool false] 4)
   simpa using this
 have h3 : (((w.alloc (.cells #[.string ⟨r.toArray⟩] 9)).alloc (.cells #[.bool false] 4)).alloc (.cells #[.bool false] 4)).heap[w.heap.size + 1 + 1]? = some (.cells #[.bool false] 4) := by
   have := heap_alloc_new ((w.alloc (.cells #[.string ⟨r.toArray⟩] 9)).alloc (.cells #[.bool false] 4)) (.cells #[.bool false] 4)
   simpa using this
 have HP := Lib.hid (show PartSt _ w.heap.size (w.heap.size + 1) (w.heap.size + 1 + 1) r false false from ⟨h1, h2, h3, by omega, by omega, by omega⟩)
 have HB := Lib.hid hb
 clear h1 h2 h3 hb
 go_enter Tryz.func233, Tryz.ntmps233
 go_wp2
 go_ret
 exact ⟨rfl, HP.out, HB.out⟩

theorem info_seg : (Tryz.prog.info? 268).map (·.size) = some 3 := by kernel_rfl
theorem ret_seg {fn : Func} {R : Ending → World → Prop} {a : Act} {w : World} {p u : Tmp} {rb : Nat} {v0 v1 v2 x : Value} (hf : fn.results = #[.cell p 268, .tmp u]) (hp : a.tmps.getD p undef = .pointer (some ⟨rb, 0, none⟩)) (hu : a.tmps.getD u undef = x) (hd : a.defers = [])
   (hg : w.heap[rb]? = some (.cells #[v0, v1, v2] 268 (0, 0))) (hR : R (.returned (.tuple #[.agg #[v0, v1, v2], x])) w) : bodyPost Tryz.prog fn R .ret a w := by
 refine bodyPost_ret (v := .tuple #[.agg #[v0, v1, v2], x]) ?_ hd hR
 rw [results_cell_tmp hf, hp, hu]
 simp [asAddr, run_loadVar_row (P := Tryz.prog) w rb 268 268 #[v0, v1, v2] (0, 0) _ hg Tryz.underlying268 rfl info_seg, Result.andThen]
theorem part_end {w : World} {b1 b2 b3 : Nat} {r : By} {bg dn : Bool} (h : PartSt w b1 b2 b3 r bg dn) (r' : By) (q : Bool) (A B : Obj) :
   PartSt (((((w.setCell ⟨b1, 0, none⟩ (.string ⟨r'.toArray⟩)).setCell ⟨b2, 0, none⟩ (.bool true)).setCell ⟨b3, 0, none⟩ (.bool q)).alloc A).alloc B).drew.drew b1 b2 b3 r' true q ∧
     Only [b1, b2, b3] w (((((w.setCell ⟨b1, 0, none⟩ (.string ⟨r'.toArray⟩)).setCell ⟨b2, 0, none⟩ (.bool true)).setCell ⟨b3, 0, none⟩ (.bool q)).alloc A).alloc B).drew.drew := by
 have hs : (((w.setCell ⟨b1, 0, none⟩ (.string ⟨r'.toArray⟩)).setCell ⟨b2, 0, none⟩ (.bool true)).setCell ⟨b3, 0, none⟩ (.bool q)).heap.size = w.heap.size := by simp
 have l1 := lt_of_block h.rcd
 have l2 := lt_of_block h.beg
 have l3 := lt_of_block h.don
 have key : ∀ k o, k < w.heap.size → (((w.setCell ⟨b1, 0, none⟩ (.string ⟨r'.toArray⟩)).setCell ⟨b2, 0, none⟩ (.bool true)).setCell ⟨b3, 0, none⟩ (.bool q)).heap[k]? = some o →
     (((((w.setCell ⟨b1, 0, none⟩ (.string ⟨r'.toArray⟩)).setCell ⟨b2, 0, none⟩ (.bool true)).setCell ⟨b3, 0, none⟩ (.bool q)).alloc A).alloc B).drew.drew.heap[k]? = some o := by
   intro k o hk ho
   show ((((w.setCell ⟨b1, 0, none⟩ (.string ⟨r'.toArray⟩)).setCell ⟨b2, 0, none⟩ (.bool true)).setCell ⟨b3, 0, none⟩ (.bool q)).alloc A |>.alloc B).heap[k]? = _
   rw [halloc _ _ (by simp; omega), halloc _ _ (by simp; omega)]; exact ho
 refine ⟨⟨key _ _ l1 ?_, key _ _ l2 ?_, key _ _ l3 ?_, h.h12, h.h13, h.h23⟩, ?_⟩
 · exact (Below.heap_setCell _ _ _ _ h.h13).trans ((Below.heap_setCell _ _ _ _ h.h12).trans (cell_row_any _ _ _ _ _ _ _ h.rcd))
 · exact (Below.heap_setCell _ _ _ _ h.h23).trans (cell_row_any _ _ _ _ _ _ _ ((Below.heap_setCell _ _ _ _ h.h12.symm).trans h.beg))
 · exact cell_row_any _ _ _ _ _ _ _ ((Below.heap_setCell _ _ _ _ h.h23.symm).trans ((Below.heap_setCell _ _ _ _ h.h13.symm).trans h.don))
 · exact ((((((Only.refl _ w).setCell (p := ⟨b1, 0, none⟩) (Or.inl (by simp)) _).setCell (p := ⟨b2, 0, none⟩) (Or.inl (by simp)) _).setCell (p := ⟨b3, 0, none⟩) (Or.inl (by simp)) _).alloc A).alloc B).drew.drew
theorem row_first {S : World} {A B : Obj} : ((S.alloc A).alloc B).drew.drew.heap[S.heap.size]? = some A := by
 show ((S.alloc A).alloc B).heap[S.heap.size]? = _
 rw [halloc _ _ (by simp)]; exact heap_alloc_new _ _

set_option maxRecDepth 100000 in
set_option maxHeartbeats 1000000 in
theorem part_go (w : World) (b1 b2 b3 : Nat) (r : By) (bg : Bool) (room : Nat) (h : PartSt w b1 b2 b3 r bg false) (_ : r.length ≤ 1000000) (hroom : room ≤ 1000000) :
   Calls Tryz.prog 256 #[.int .i64 room, .pointer (some ⟨b3, 0, none⟩), .pointer (some ⟨b1, 0, none⟩), .pointer (some ⟨b2, 0, none⟩)] w fun e w' =>
     e = .returned (.tuple #[.agg #[.bool bg, .bool (decide (min room r.length < r.length)), .string ⟨(r.take room).toArray⟩], .bool true]) ∧ PartSt w' b1 b2 b3 (r.drop (min room r.length)) true (decide (min room r.length = r.length)) ∧ Only [b1, b2, b3] w w' := by
 have c1 := cell_at (i := 0) h.rcd rfl
 have c2 := cell_at (i := 0) h.beg rfl
 have c3 := cell_at (i := 0) h.don rfl
 have f1 := free_at h.rcd 0
 have f2 := free_at h.beg 0
 have f3 := free_at h.don 0
 have l1 := lt_of_block h.rcd
 have l2 := lt_of_block h.beg
 have l3 := lt_of_block h.don
 have n12 := h.h12
 have n13 := h.h13
 have n23 := h.h23
 have m12 := n12.symm
 have m13 := n13.symm
 have m23 := n23.symm
 by_cases hlt : room < r.length
 · have h1 : (room : Int) ≤ (r.length : Int) := by omega
   go_enter Tryz.func256, Tryz.ntmps256
   go_wp2_with fail
   go_region_held3 (fun w' => w'.cell? ⟨b1, 0, none⟩ = some (.string ⟨r.toArray⟩) ∧ w'.cell? ⟨b2, 0, none⟩ = some (.bool bg)) (go_keep) (fail)
   go_wp2_with fail
   go_region
   go_wp2_with fail
   have hend := part_end h (r.drop room) false (.cells #[.bool bg, .bool true, .string ⟨(r.take room).toArray⟩] 268) (.cells #[.bool bg, .bool true, .string ⟨(r.take room).toArray⟩] 268)
   have hmin : min room r.length = room := Nat.min_eq_left (by omega)
   have e1 : ((room : Int) == (r.length : Int)) = false := by simp; omega
   rw [e1]
   rw [hmin, decide_eq_true hlt, show decide (room = r.length) = false by simp; omega]
   refine ret_seg (p := 5) (u := 6) (rb := w.heap.size) rfl rfl rfl rfl ?_ ⟨rfl, hend.1, hend.2⟩
   have := row_first (S := ((w.setCell ⟨b1, 0, none⟩ (.string ⟨(r.drop room).toArray⟩)).setCell ⟨b2, 0, none⟩ (.bool true)).setCell ⟨b3, 0, none⟩ (.bool false)) (A := .cells #[.bool bg, .bool true, .string ⟨(r.take room).toArray⟩] 268) (B := .cells #[.bool bg, .bool true, .string ⟨(r.take room).toArray⟩] 268)
   simpa using this
 · have hend := part_end h [] true (.cells #[.bool bg, .bool false, .string ⟨r.toArray⟩] 268) (.cells #[.bool bg, .bool false, .string ⟨r.toArray⟩] 268)
   have hrow := row_first (S := ((w.setCell ⟨b1, 0, none⟩ (.string ⟨([] : By).toArray⟩)).setCell ⟨b2, 0, none⟩ (.bool true)).setCell ⟨b3, 0, none⟩ (.bool true)) (A := .cells #[.bool bg, .bool false, .string ⟨r.toArray⟩] 268) (B := .cells #[.bool bg, .bool false, .string ⟨r.toArray⟩] 268)
   have hmin : min room r.length = r.length := Nat.min_eq_right (by omega)
   have htk : r.take room = r := List.take_of_length_le (by omega)
   have hdr : r.drop r.length = [] := List.drop_eq_nil_of_le (Nat.le_refl _)
   have HE := Lib.hid hend
   have HR := Lib.hid hrow
   have HM := Lib.hid hmin
   have HT := Lib.hid htk
   have HD := Lib.hid hdr
   clear hend hrow hmin htk hdr
   by_cases heq : room = r.length
   · subst heq
     go_enter Tryz.func256, Tryz.ntmps256
     go_wp2_with fail
     go_region_held3 (fun w' => w'.cell? ⟨b1, 0, none⟩ = some (.string ⟨r.toArray⟩) ∧ w'.cell? ⟨b2, 0, none⟩ = some (.bool bg)) (go_keep) (fail)
     go_wp2_with fail
     go_region
     go_wp2_with fail
     rw [HM.out, HT.out, HD.out]
     simp only [Nat.lt_irrefl, decide_false, decide_true]
     refine ret_seg (p := 5) (u := 6) (rb := w.heap.size) rfl rfl rfl rfl ?_ ⟨rfl, HE.out.1, HE.out.2⟩
     have hx := HR.out
     rw [show (⟨([] : By).toArray⟩ : ByteArray) = ByteArray.empty from rfl] at hx
     simpa using hx
   · have h1 : ¬ (room : Int) ≤ (r.length : Int) := by omega
     go_enter Tryz.func256, Tryz.ntmps256
     go_wp2_with fail
     go_region_held3 (fun w' => w'.cell? ⟨b1, 0, none⟩ = some (.string ⟨r.toArray⟩) ∧ w'.cell? ⟨b2, 0, none⟩ = some (.bool bg)) (go_keep) (fail)
     go_wp2_with fail
     go_region
     go_wp2_with fail
     rw [HM.out, HT.out, HD.out]
     simp only [Nat.lt_irrefl, decide_false, decide_true]
     refine ret_seg (p := 5) (u := 6) (rb := w.heap.size) rfl rfl rfl rfl ?_ ⟨rfl, HE.out.1, HE.out.2⟩
     have hx := HR.out
     rw [show (⟨([] : By).toArray⟩ : ByteArray) = ByteArray.empty from rfl] at hx
     simpa using hx
end

section
open Go.RowKit Go.Sort
attribute [local go_sem] ByteArray.mk_append_mk strOfNums_size ext_drop ext_take

set_option maxRecDepth 100000 in
set_option maxHeartbeats 1000000 in
theorem part_done (w : World) (b1 b2 b3 : Nat) (r : By) (bg : Bool) (room : Int) (h : PartSt w b1 b2 b3 r bg true) :
   Calls Tryz.prog 256 #[.int .i64 room, .pointer (some ⟨b3, 0, none⟩), .pointer (some ⟨b1, 0, none⟩), .pointer (some ⟨b2, 0, none⟩)] w fun e w' =>
     e = .returned (.tuple #[.agg #[.bool false, .bool false, .string ⟨([] : By).toArray⟩], .bool false]) ∧ Below w.heap.size w w' := by
 have c3 := cell_at (i := 0) h.don rfl
 have l3 := lt_of_block h.don
 go_enter Tryz.func256, Tryz.ntmps256
 go_wp2_with fail
 refine ret_seg (p := 5) (u := 6) (rb := w.heap.size) rfl rfl rfl rfl (heap_alloc_new _ _) ⟨rfl, (Below.refl _ _).alloc (Nat.le_refl _) _⟩

/-- The closure's own measure: nothing once it is done. -/
def partMu (w : World) (b1 b3 : Nat) : Nat := match w.cell? ⟨b3, 0, none⟩ with
 | some (.bool true) => 0
 | _ => match w.cell? ⟨b1, 0, none⟩ with
   | some (.string s) => s.size + 1
   | _ => 0
theorem partMu_of {w : World} {b1 b2 b3 : Nat} {r : By} {bg dn : Bool} (h : PartSt w b1 b2 b3 r bg dn) : partMu w b1 b3 = if dn then 0 else r.length + 1 := by
 unfold partMu
 rw [cell_at (i := 0) h.don rfl, cell_at (i := 0) h.rcd rfl]
 cases dn
 · simp; rfl
 · rfl
theorem PartSt.below {w w' : World} {b1 b2 b3 : Nat} {r : By} {bg dn : Bool} (h : PartSt w b1 b2 b3 r bg dn) (hb : Below w.heap.size w w') : PartSt w' b1 b2 b3 r bg dn :=
 ⟨heap_below hb (lt_of_block h.rcd) h.rcd, heap_below hb (lt_of_block h.beg) h.beg, heap_below hb (lt_of_block h.don) h.don, h.h12, h.h13, h.h23⟩
theorem PartSt.grown {w w' : World} {b1 b2 b3 : Nat} {r : By} {bg dn : Bool} {row : Option Nat} (h : PartSt w b1 b2 b3 r bg dn) (hg : w.grownBy w' row) (h1 : row ≠ some b1) (h2 : row ≠ some b2) (h3 : row ≠ some b3) : PartSt w' b1 b2 b3 r bg dn :=
 ⟨(hg.block _ (lt_of_block h.rcd) (fun e => h1 e.symm)).trans h.rcd, (hg.block _ (lt_of_block h.beg) (fun e => h2 e.symm)).trans h.beg, (hg.block _ (lt_of_block h.don) (fun e => h3 e.symm)).trans h.don, h.h12, h.h13, h.h23⟩

/-- What the loop still has to give. -/
def restOf (block : Nat) (dn : Bool) (f : Nat) (bg : Bool) (r : By) : List By := if dn then [] else restA block f bg r
theorem restOf_step (block : Nat) (hb : 9 ≤ block) (f : Nat) (bg : Bool) (r : By) (hf : r.length < f) :
   ∃ g, (r.drop (min (block - 8) r.length)).length < g ∧ restOf block false f bg r = whole (segF bg (decide (min (block - 8) r.length < r.length)) (r.take (block - 8))) :: restOf block (decide (min (block - 8) r.length = r.length)) g true (r.drop (min (block - 8) r.length)) := by
 obtain ⟨g, rfl⟩ : ∃ g, f = g + 1 := ⟨f - 1, by omega⟩
 by_cases he : min (block - 8) r.length = r.length
 · refine ⟨r.length + 1, by rw [List.length_drop]; omega, ?_⟩
   unfold restOf
   rw [he]
   simp only [decide_true, if_true, Bool.false_eq_true, if_false]
   unfold restA
   rw [if_pos he, he]
 · have hm : min (block - 8) r.length = block - 8 := by omega
   refine ⟨g, by rw [List.length_drop, hm]; omega, ?_⟩
   unfold restOf
   rw [decide_eq_false he]
   simp only [Bool.false_eq_true, if_false]
   conv => lhs; unfold restA
   rw [if_neg he, hm]

theorem info9 : (Tryz.prog.info? 9).map (fun i => (i.zero, i.size, i.bytes)) = some (some (.string ByteArray.empty), 1, 16) := by kernel_rfl
end

end Go.Proofs.YtckpepfkfjdnhaaGreatDoor

/-
  Walks: the parts of a record. No condition.
-/
import Derived.Test.YthkpcalopmddpaaDoorS5
namespace Go.Proofs.YthkpcalopmddpaaDoor
open Go.RowKit Go.Sort
attribute [local go_sem] ByteArray.mk_append_mk strOfNums_size ext_drop ext_take

structure PartSt (w : World) (b1 b2 b3 : Nat) (r : By) (bg dn : Bool) : Prop where
  rcd : w.heap[b1]? = some (.cells #[.string ⟨r.toArray⟩] 9)
  beg : w.heap[b2]? = some (.cells #[.bool bg] 4)
  don : w.heap[b3]? = some (.cells #[.bool dn] 4)
  h12 : b1 ≠ b2
  h13 : b1 ≠ b3
  h23 : b2 ≠ b3

set_option maxRecDepth 100000 in
set_option maxHeartbeats 400000 in
theorem parts_any (r : By) (w : World) :
    Calls Tryd.prog 107 #[.string ⟨r.toArray⟩] w fun e w' => e = .returned (.func (.func 113) #[] #[.pointer (some ⟨w.heap.size + 1 + 1, 0, none⟩), .pointer (some ⟨w.heap.size, 0, none⟩), .pointer (some ⟨w.heap.size + 1, 0, none⟩)]) ∧
      PartSt w' w.heap.size (w.heap.size + 1) (w.heap.size + 1 + 1) r false false ∧ Below w.heap.size w w' := by
  have hb : Below w.heap.size w (((w.alloc (.cells #[.string ⟨r.toArray⟩] 9)).alloc (.cells #[.bool false] 4)).alloc (.cells #[.bool false] 4)) := (((Below.refl _ _).alloc (by simp) _).alloc (by simp) _).alloc (by simp; omega) _
  have h1 : (((w.alloc (.cells #[.string ⟨r.toArray⟩] 9)).alloc (.cells #[.bool false] 4)).alloc (.cells #[.bool false] 4)).heap[w.heap.size]? = some (.cells #[.string ⟨r.toArray⟩] 9) := by
    rw [halloc _ _ (by simp; omega), halloc _ _ (by simp)]; exact heap_alloc_new _ _
  have h2 : (((w.alloc (.cells #[.string ⟨r.toArray⟩] 9)).alloc (.cells #[.bool false] 4)).alloc (.cells #[.bool false] 4)).heap[w.heap.size + 1]? = some (.cells #[.bool false] 4) := by
    rw [halloc _ _ (by simp)]
    have := heap_alloc_new (w.alloc (.cells #[.string ⟨r.toArray⟩] 9)) (.cells #[.bool false] 4)
    simpa using this
  have h3 : (((w.alloc (.cells #[.string ⟨r.toArray⟩] 9)).alloc (.cells #[.bool false] 4)).alloc (.cells #[.bool false] 4)).heap[w.heap.size + 1 + 1]? = some (.cells #[.bool false] 4) := by
    have := heap_alloc_new ((w.alloc (.cells #[.string ⟨r.toArray⟩] 9)).alloc (.cells #[.bool false] 4)) (.cells #[.bool false] 4)
    simpa using this
  have HP := Lib.hid (show PartSt _ w.heap.size (w.heap.size + 1) (w.heap.size + 1 + 1) r false false from ⟨h1, h2, h3, by omega, by omega, by omega⟩)
  have HB := Lib.hid hb
  clear h1 h2 h3 hb
  go_enter Tryd.func107, Tryd.ntmps107
  go_wp2
  go_ret
  exact ⟨rfl, HP.out, HB.out⟩

theorem info_seg : (Tryd.prog.info? 151).map (·.size) = some 3 := by kernel_rfl
theorem ret_seg {fn : Func} {R : Ending → World → Prop} {a : Act} {w : World} {p u : Tmp} {rb : Nat} {v0 v1 v2 x : Value} (hf : fn.results = #[.cell p 151, .tmp u]) (hp : a.tmps.getD p undef = .pointer (some ⟨rb, 0, none⟩)) (hu : a.tmps.getD u undef = x) (hd : a.defers = [])
    (hg : w.heap[rb]? = some (.cells #[v0, v1, v2] 151 (0, 0))) (hR : R (.returned (.tuple #[.agg #[v0, v1, v2], x])) w) : bodyPost Tryd.prog fn R .ret a w := by
  refine bodyPost_ret (v := .tuple #[.agg #[v0, v1, v2], x]) ?_ hd hR
  rw [results_cell_tmp hf, hp, hu]
  simp [asAddr, run_loadVar_row (P := Tryd.prog) w rb 151 151 #[v0, v1, v2] (0, 0) _ hg Tryd.underlying151 rfl info_seg, Result.andThen]
theorem part_end {w : World} {b1 b2 b3 : Nat} {r : By} {bg dn : Bool} (h : PartSt w b1 b2 b3 r bg dn) (r' : By) (q : Bool) (A B : Obj) :
    PartSt (((((w.setCell ⟨b1, 0, none⟩ (.string ⟨r'.toArray⟩)).setCell ⟨b2, 0, none⟩ (.bool true)).setCell ⟨b3, 0, none⟩ (.bool q)).alloc A).alloc B).drew.drew b1 b2 b3 r' true q ∧
      Only [b1, b2, b3] w (((((w.setCell ⟨b1, 0, none⟩ (.string ⟨r'.toArray⟩)).setCell ⟨b2, 0, none⟩ (.bool true)).setCell ⟨b3, 0, none⟩ (.bool q)).alloc A).alloc B).drew.drew := by
  have hs : (((w.setCell ⟨b1, 0, none⟩ (.string ⟨r'.toArray⟩)).setCell ⟨b2, 0, none⟩ (.bool true)).setCell ⟨b3, 0, none⟩ (.bool q)).heap.size = w.heap.size := by simp
  have l1 := lt_of_block h.rcd
  have l2 := lt_of_block h.beg
  have l3 := lt_of_block h.don
  have key : ∀ k o, k < w.heap.size → (((w.setCell ⟨b1, 0, none⟩ (.string ⟨r'.toArray⟩)).setCell ⟨b2, 0, none⟩ (.bool true)).setCell ⟨b3, 0, none⟩ (.bool q)).heap[k]? = some o →
      (((((w.setCell ⟨b1, 0, none⟩ (.string ⟨r'.toArray⟩)).setCell ⟨b2, 0, none⟩ (.bool true)).setCell ⟨b3, 0, none⟩ (.bool q)).alloc A).alloc B).drew.drew.heap[k]? = some o := by
    intro k o hk ho
    show ((((w.setCell ⟨b1, 0, none⟩ (.string ⟨r'.toArray⟩)).setCell ⟨b2, 0, none⟩ (.bool true)).setCell ⟨b3, 0, none⟩ (.bool q)).alloc A |>.alloc B).heap[k]? = _
    rw [halloc _ _ (by simp; omega), halloc _ _ (by simp; omega)]; exact ho
  refine ⟨⟨key _ _ l1 ?_, key _ _ l2 ?_, key _ _ l3 ?_, h.h12, h.h13, h.h23⟩, ?_⟩
  · exact (Below.heap_setCell _ _ _ _ h.h13).trans ((Below.heap_setCell _ _ _ _ h.h12).trans (cell_row_any _ _ _ _ _ _ _ h.rcd))
  · exact (Below.heap_setCell _ _ _ _ h.h23).trans (cell_row_any _ _ _ _ _ _ _ ((Below.heap_setCell _ _ _ _ h.h12.symm).trans h.beg))
  · exact cell_row_any _ _ _ _ _ _ _ ((Below.heap_setCell _ _ _ _ h.h23.symm).trans ((Below.heap_setCell _ _ _ _ h.h13.symm).trans h.don))
  · exact ((((((Only.refl _ w).setCell (p := ⟨b1, 0, none⟩) (Or.inl (by simp)) _).setCell (p := ⟨b2, 0, none⟩) (Or.inl (by simp)) _).setCell (p := ⟨b3, 0, none⟩) (Or.inl (by simp)) _).alloc A).alloc B).drew.drew
theorem row_first {S : World} {A B : Obj} : ((S.alloc A).alloc B).drew.drew.heap[S.heap.size]? = some A := by
  show ((S.alloc A).alloc B).heap[S.heap.size]? = _
  rw [halloc _ _ (by simp)]; exact heap_alloc_new _ _

set_option maxRecDepth 100000 in
set_option maxHeartbeats 1000000 in
theorem part_go (w : World) (b1 b2 b3 : Nat) (r : By) (bg : Bool) (room : Nat) (h : PartSt w b1 b2 b3 r bg false) (_ : r.length ≤ 1000000) (hroom : room ≤ 1000000) :
    Calls Tryd.prog 113 #[.int .i64 room, .pointer (some ⟨b3, 0, none⟩), .pointer (some ⟨b1, 0, none⟩), .pointer (some ⟨b2, 0, none⟩)] w fun e w' =>
      e = .returned (.tuple #[.agg #[.bool bg, .bool (decide (min room r.length < r.length)), .string ⟨(r.take room).toArray⟩], .bool true]) ∧ PartSt w' b1 b2 b3 (r.drop (min room r.length)) true (decide (min room r.length = r.length)) ∧ Only [b1, b2, b3] w w' := by
  have c1 := cell_at (i := 0) h.rcd rfl
  have c2 := cell_at (i := 0) h.beg rfl
  have c3 := cell_at (i := 0) h.don rfl
  have f1 := free_at h.rcd 0
  have f2 := free_at h.beg 0
  have f3 := free_at h.don 0
  have l1 := lt_of_block h.rcd
  have l2 := lt_of_block h.beg
  have l3 := lt_of_block h.don
  have n12 := h.h12
  have n13 := h.h13
  have n23 := h.h23
  have m12 := n12.symm
  have m13 := n13.symm
  have m23 := n23.symm
  by_cases hlt : room < r.length
  · have h1 : (room : Int) ≤ (r.length : Int) := by omega
    go_enter Tryd.func113, Tryd.ntmps113
    go_wp2_with fail
    go_region_held3 (fun w' => w'.cell? ⟨b1, 0, none⟩ = some (.string ⟨r.toArray⟩) ∧ w'.cell? ⟨b2, 0, none⟩ = some (.bool bg)) (go_keep) (fail)
    go_wp2_with fail
    go_region
    go_wp2_with fail
    have hend := part_end h (r.drop room) false (.cells #[.bool bg, .bool true, .string ⟨(r.take room).toArray⟩] 151) (.cells #[.bool bg, .bool true, .string ⟨(r.take room).toArray⟩] 151)
    have hmin : min room r.length = room := Nat.min_eq_left (by omega)
    have e1 : ((room : Int) == (r.length : Int)) = false := by simp; omega
    rw [e1]
    rw [hmin, decide_eq_true hlt, show decide (room = r.length) = false by simp; omega]
    refine ret_seg (p := 5) (u := 6) (rb := w.heap.size) rfl rfl rfl rfl ?_ ⟨rfl, hend.1, hend.2⟩
    have := row_first (S := ((w.setCell ⟨b1, 0, none⟩ (.string ⟨(r.drop room).toArray⟩)).setCell ⟨b2, 0, none⟩ (.bool true)).setCell ⟨b3, 0, none⟩ (.bool false)) (A := .cells #[.bool bg, .bool true, .string ⟨(r.take room).toArray⟩] 151) (B := .cells #[.bool bg, .bool true, .string ⟨(r.take room).toArray⟩] 151)
    simpa using this
  · have hend := part_end h [] true (.cells #[.bool bg, .bool false, .string ⟨r.toArray⟩] 151) (.cells #[.bool bg, .bool false, .string ⟨r.toArray⟩] 151)
    have hrow := row_first (S := ((w.setCell ⟨b1, 0, none⟩ (.string ⟨([] : By).toArray⟩)).setCell ⟨b2, 0, none⟩ (.bool true)).setCell ⟨b3, 0, none⟩ (.bool true)) (A := .cells #[.bool bg, .bool false, .string ⟨r.toArray⟩] 151) (B := .cells #[.bool bg, .bool false, .string ⟨r.toArray⟩] 151)
    have hmin : min room r.length = r.length := Nat.min_eq_right (by omega)
    have htk : r.take room = r := List.take_of_length_le (by omega)
    have hdr : r.drop r.length = [] := List.drop_eq_nil_of_le (Nat.le_refl _)
    have HE := Lib.hid hend
    have HR := Lib.hid hrow
    have HM := Lib.hid hmin
    have HT := Lib.hid htk
    have HD := Lib.hid hdr
    clear hend hrow hmin htk hdr
    by_cases heq : room = r.length
    · subst heq
      go_enter Tryd.func113, Tryd.ntmps113
      go_wp2_with fail
      go_region_held3 (fun w' => w'.cell? ⟨b1, 0, none⟩ = some (.string ⟨r.toArray⟩) ∧ w'.cell? ⟨b2, 0, none⟩ = some (.bool bg)) (go_keep) (fail)
      go_wp2_with fail
      go_region
      go_wp2_with fail
      rw [HM.out, HT.out, HD.out]
      simp only [Nat.lt_irrefl, decide_false, decide_true]
      refine ret_seg (p := 5) (u := 6) (rb := w.heap.size) rfl rfl rfl rfl ?_ ⟨rfl, HE.out.1, HE.out.2⟩
      have hx := HR.out
      rw [show (⟨([] : By).toArray⟩ : ByteArray) = ByteArray.empty from rfl] at hx
      simpa using hx
    · have h1 : ¬ (room : Int) ≤ (r.length : Int) := by omega
      go_enter Tryd.func113, Tryd.ntmps113
      go_wp2_with fail
      go_region_held3 (fun w' => w'.cell? ⟨b1, 0, none⟩ = some (.string ⟨r.toArray⟩) ∧ w'.cell? ⟨b2, 0, none⟩ = some (.bool bg)) (go_keep) (fail)
      go_wp2_with fail
      go_region
      go_wp2_with fail
      rw [HM.out, HT.out, HD.out]
      simp only [Nat.lt_irrefl, decide_false, decide_true]
      refine ret_seg (p := 5) (u := 6) (rb := w.heap.size) rfl rfl rfl rfl ?_ ⟨rfl, HE.out.1, HE.out.2⟩
      have hx := HR.out
      rw [show (⟨([] : By).toArray⟩ : ByteArray) = ByteArray.empty from rfl] at hx
      simpa using hx

end Go.Proofs.YthkpcalopmddpaaDoor

/-
  Walks of the reference: Of, Ints, Valid. Condition of the contracts: at most ten thousand entries and versions.
-/
import Derived.Test.YtbocefnfhnnbjaaR1
namespace Go.Proofs.Ytbocefnfhnnbjaa
open Go.RowKit Go.Sort

def allP : Int := -4611686018427387904
def hitV (id pg : Int) (v : Tri) : Bool := v.1 == id && (v.2.1 == pg || v.2.1 == allP)
def ofV (V : List Tri) (id pg : Int) : Int := V.foldl (fun n v => if hitV id pg v then max n v.2.2 else n) 0
theorem ofV_snoc (V : List Tri) (id pg : Int) (v : Tri) : ofV (V ++ [v]) id pg = if hitV id pg v then max (ofV V id pg) v.2.2 else ofV V id pg := by
  unfold ofV; rw [List.foldl_append]; rfl
theorem ofV_bd (V : List Tri) (id pg : Int) (h : ∀ x ∈ V, okR x) : I64 (ofV V id pg) ∧ 0 ≤ ofV V id pg := by
  have key : ∀ (V : List Tri) (n : Int), (∀ x ∈ V, okR x) → I64 n → 0 ≤ n → I64 (V.foldl (fun n v => if hitV id pg v then max n v.2.2 else n) n) ∧ 0 ≤ V.foldl (fun n v => if hitV id pg v then max n v.2.2 else n) n := by
    intro V
    induction V with
    | nil => intro n _ h1 h2; exact ⟨h1, h2⟩
    | cons v V ih =>
      intro n hv h1 h2
      refine ih _ (fun x hx => hv x (List.mem_cons_of_mem _ hx)) ?_ ?_
      · show I64 (if hitV id pg v then max n v.2.2 else n)
        split
        · have := (hv v (by simp)).2.2
          rw [Int.max_def]; split <;> assumption
        · exact h1
      · show 0 ≤ (if hitV id pg v then max n v.2.2 else n)
        split
        · omega
        · exact h2
  exact key V 0 h (i64_of (by omega) (by omega)) (by omega)

set_option maxHeartbeats 2000000 in
set_option maxRecDepth 100000 in
theorem of_any (w : World) (B : Nat) (x : RS) (id pg : Int) (hv : Tris w B x.va x.V) (hvl : x.V.length ≤ 10000) (hB : B ≤ w.heap.size) :
    Calls Try.prog 19 #[x.val, .int .i64 id, .int .i64 pg] w fun r w' => r = .returned (.int .i64 (ofV x.V id pg)) ∧ Below w.heap.size w w' := by
  obtain ⟨c, va, vcap, V, ea, ecap, E⟩ := x
  unfold RS.val
  have hb0 : Below w.heap.size w (w.alloc (.cells #[.int .i64 c, .slice va V.length vcap, .slice ea E.length ecap] 30)) := (Below.refl _ _).alloc (by simp) _
  have ha1 := heap_alloc_new w (.cells #[.int .i64 c, .slice va V.length vcap, .slice ea E.length ecap] 30)
  have hV : Tris _ B va V := hv.below (hb0.mono hB)
  have hl : V.length ≤ 10000 := hvl
  go_enter Try.func19, Try.ntmps19
  go_wp2
  generalize w.alloc (.cells #[.int .i64 c, .slice va V.length vcap, .slice ea E.length ecap] 30) = w1 at hb0 ha1 hV ⊢
  go_loopw [7, 8, 9] (fun n k _ wr => ∃ j : Nat, j ≤ V.length ∧ k = .int .i64 j ∧ Below w.heap.size w wr ∧ Below w1.heap.size w1 wr ∧ n = .int .i64 (ofV (V.take j) id pg)) (fun _ k _ _ => V.length - (intOf k).toNat)
  case atStart => exact ⟨0, by omega, rfl, hb0, Below.refl _ _, rfl⟩
  case round =>
    obtain ⟨j, hj, rfl, hb, hb1, rfl⟩ := hrel
    clear hb0
    have x1 : wr.cell? ⟨w.heap.size, 1, none⟩ = some (.slice va V.length vcap) := cell_at (i := 1) (heap_below hb1 (lt_of_block ha1) ha1) rfl
    by_cases hlt : j < V.length
    · obtain ⟨b, off, rfl, hbb, z0, z1, z2⟩ := (hV.below (hb1.mono (by have := lt_of_block ha1; omega))).get hlt
      have hst := Lib.hid (show ofV (V.take (j + 1)) id pg = _ by rw [take_snoc' V j hlt, ofV_snoc])
      have hbdo := i64_bd (ofV_bd (V.take j) id pg (fun x hx => hv.wf x (List.mem_of_mem_take hx))).1
      have hwf := hv.wf _ (List.getElem_mem hlt)
      have hbdy := i64_bd hwf.2.2
      generalize V[j] = y at z0 z1 z2 hst hbdy hwf
      clear hwf
      obtain ⟨y1, y2, y3⟩ := y
      simp only at z0 z1 z2 hbdy
      unfold hitV at hst
      simp only at hst
      generalize ofV (V.take j) id pg = n0 at hst hbdo ⊢
      have hbx : Below wr.heap.size wr (wr.alloc (.cells #[.int .i64 y1, .int .i64 y2, .int .i64 y3] 86)) := (Below.refl _ _).alloc (Nat.le_refl _) _
      have hb' := hb.trans (hbx.mono hb.size)
      have hb1' := hb1.trans (hbx.mono hb1.size)
      cases q1 : y1 == id
      all_goals
        cases q2 : y2 == pg
        all_goals
          cases q3 : y2 == allP
          all_goals
            rw [q1, q2, q3] at hst
            have q3' : (y2 == -4611686018427387904) = _ := q3
            simp only [Bool.true_and, Bool.or_true, Bool.or_false, Bool.false_and, if_true, if_false, Bool.false_eq_true] at hst
            go_wp2
            go_roundw
            case rel => exact ⟨j + 1, by omega, by go_num, hb', hb1', by rw [hst.out]⟩
            case measure => simp [intOf]; omega
    · have hk : V.take j = V := List.take_of_length_le (by omega)
      have HK := Lib.hid hk
      go_wp2
      go_ret
      exact ⟨ret_int (by rw [HK.out]), hb⟩

end Go.Proofs.Ytbocefnfhnnbjaa

/-
  Walks of the reference: Forget. Condition of the contracts: at most ten thousand entries.
-/
import Derived.Test.YtbocefnfhnnbjaaR4
import Derived.Laws.Rows
namespace Go.Proofs.Ytbocefnfhnnbjaa
open Go.RowKit Go.Sort

theorem RS.Ok.setE {w w' : World} {B : Nat} {x : RS} (h : x.Ok w B) (hb : Below B w w') (hB : B ≤ w'.heap.size) {v : Value} {base : Nat} {E : List Tri} (ho : w'.ownsRow base 75 3 v E.length (flat3 E)) (hE : ∀ y ∈ E, okR y) (hl : E.length ≤ 10000) :
    ∃ ea ecap, v = .slice ea E.length ecap ∧ ∀ c, RS.Ok w' w'.heap.size ⟨c, x.va, x.vcap, x.V, ea, ecap, E⟩ := by
  obtain ⟨a, cap, rfl, ht⟩ := tris_of_row ho hE
  refine ⟨a, cap, rfl, fun c => ⟨(h.ver.below hb).mono hB, ht, h.vsh, ?_, h.vl, hl⟩⟩
  rcases ho.2 with ⟨e, hn⟩ | ⟨g, cap', cur, e, _⟩
  · injection e with e1 e2 e3; exact Or.inr ⟨e1, e3⟩
  · injection e with e1 e2 e3; exact Or.inl ⟨_, _, e1⟩

theorem info30 : (Try.prog.info? 30).map (·.size) = some 3 := by kernel_rfl
theorem store_state {w : World} {rb : Nat} {v0 v1 v2 o0 o1 o2 : Value} (h : w.heap[rb]? = some (.cells #[o0, o1, o2] 30 (0, 0))) :
    (((w.setCell ⟨rb, 0, none⟩ v0).setCell ⟨rb, 1, none⟩ v1).setCell ⟨rb, 2, none⟩ v2).heap[rb]? = some (.cells #[v0, v1, v2] 30 (0, 0)) := by
  have h1 : (w.setCell ⟨rb, 0, none⟩ v0).heap[rb]? = some (.cells #[v0, o1, o2] 30 (0, 0)) := cell_row_any _ _ _ _ _ _ _ h
  have h2 : ((w.setCell ⟨rb, 0, none⟩ v0).setCell ⟨rb, 1, none⟩ v1).heap[rb]? = some (.cells #[v0, v1, o2] 30 (0, 0)) := cell_row_any _ _ _ _ _ _ _ h1
  exact cell_row_any _ _ _ _ _ _ _ h2
theorem below_store_state {B rb : Nat} {a w : World} (h : Below B a w) (hr : B ≤ rb) (v0 v1 v2 : Value) : Below B a (((w.setCell ⟨rb, 0, none⟩ v0).setCell ⟨rb, 1, none⟩ v1).setCell ⟨rb, 2, none⟩ v2) :=
  ((h.setCell (show B ≤ (⟨rb, 0, none⟩ : Addr).block from hr) v0).setCell (show B ≤ (⟨rb, 1, none⟩ : Addr).block from hr) v1).setCell (show B ≤ (⟨rb, 2, none⟩ : Addr).block from hr) v2
theorem own_store_state {w : World} {base rb : Nat} {e : TypeId} {size : Nat} {v : Value} {n : Nat} {xs : List Value} (h : w.ownsRow base e size v n xs) (hr : rb < base) (v0 v1 v2 : Value) :
    (((w.setCell ⟨rb, 0, none⟩ v0).setCell ⟨rb, 1, none⟩ v1).setCell ⟨rb, 2, none⟩ v2).ownsRow base e size v n xs :=
  ownsRow_setCell_below (ownsRow_setCell_below (ownsRow_setCell_below h (a := ⟨rb, 0, none⟩) hr v0) (a := ⟨rb, 1, none⟩) hr v1) (a := ⟨rb, 2, none⟩) hr v2
theorem ret_state {fn : Func} {R : Ending → World → Prop} {a : Act} {w : World} {p : Tmp} {rb : Nat} {v0 v1 v2 : Value} (hf : fn.results = #[.cell p 30]) (hp : a.tmps.getD p undef = .pointer (some ⟨rb, 0, none⟩)) (hd : a.defers = [])
    (hg : w.heap[rb]? = some (.cells #[v0, v1, v2] 30 (0, 0))) (hR : R (.returned (.agg #[v0, v1, v2])) w) : bodyPost Try.prog fn R .ret a w :=
  bodyPost_ret (results_cell_row hf _ _ rb 30 _ (0, 0) _ hp hg Try.underlying30 rfl info30) hd hR

set_option maxHeartbeats 4000000 in
set_option maxRecDepth 100000 in
theorem rforget_any (w : World) (B : Nat) (x : RS) (s : Int) (h : x.Ok w B) (hB : B ≤ w.heap.size) :
    Calls Try.prog 18 #[x.val, .int .i64 s] w fun r w' =>
      ∃ ea ecap, r = .returned (RS.val ⟨x.c, x.va, x.vcap, x.V, ea, ecap, x.E.filter (fun y => y.1 != s)⟩) ∧ RS.Ok w' w'.heap.size ⟨x.c, x.va, x.vcap, x.V, ea, ecap, x.E.filter (fun y => y.1 != s)⟩ ∧ Below w.heap.size w w' := by
  obtain ⟨c, va, vcap, V, ea, ecap, E⟩ := x
  unfold RS.val
  have hel : E.length ≤ 10000 := h.el
  obtain ⟨i0, hi0, hz0, hz1, hz2⟩ := info_parts info75
  have hb0 : Below w.heap.size w (((w.alloc (.cells #[.int .i64 c, .slice va V.length vcap, .slice ea E.length ecap] 30)).alloc (.cells #[.int .i64 0, .slice none 0 0, .slice none 0 0] 30)).alloc (.cells #[] 75)) := (((Below.refl _ _).alloc (by simp) _).alloc (by simp) _).alloc (by simp; omega) _
  have ho0 := World.ownsRow_lit (base := w.heap.size + 2) (e := 75) (size := 3) ((w.alloc (.cells #[.int .i64 c, .slice va V.length vcap, .slice ea E.length ecap] 30)).alloc (.cells #[.int .i64 0, .slice none 0 0, .slice none 0 0] 30)) #[] 0 (by simp) (by simp [maxLen]) rfl
  have ha1 : (((w.alloc (.cells #[.int .i64 c, .slice va V.length vcap, .slice ea E.length ecap] 30)).alloc (.cells #[.int .i64 0, .slice none 0 0, .slice none 0 0] 30)).alloc (.cells #[] 75)).heap[w.heap.size]? = some (.cells #[.int .i64 c, .slice va V.length vcap, .slice ea E.length ecap] 30) := by
    rw [halloc _ _ (by simp; omega)]; exact heap_alloc2_old _ _ _
  have ha2 : (((w.alloc (.cells #[.int .i64 c, .slice va V.length vcap, .slice ea E.length ecap] 30)).alloc (.cells #[.int .i64 0, .slice none 0 0, .slice none 0 0] 30)).alloc (.cells #[] 75)).heap[w.heap.size + 1]? = some (.cells #[.int .i64 0, .slice none 0 0, .slice none 0 0] 30) := by
    rw [halloc _ _ (by simp)]; exact heap_alloc2_new _ _ _
  go_enter Try.func18, Try.ntmps18
  go_wp2
  generalize ((w.alloc (.cells #[.int .i64 c, .slice va V.length vcap, .slice ea E.length ecap] 30)).alloc (.cells #[.int .i64 0, .slice none 0 0, .slice none 0 0] 30)).alloc (.cells #[] 75) = w1 at hb0 ho0 ha1 ha2 ⊢
  go_loopw [5, 6] (fun v k wr => ∃ j : Nat, j ≤ E.length ∧ k = .int .i64 j ∧ Below w.heap.size w wr ∧ wr.ownsRow (w.heap.size + 2) 75 3 v ((E.take j).filter (fun y => y.1 != s)).length (flat3 ((E.take j).filter (fun y => y.1 != s))) ∧
      wr.heap[w.heap.size]? = some (.cells #[.int .i64 c, .slice va V.length vcap, .slice ea E.length ecap] 30) ∧ wr.heap[w.heap.size + 1]? = some (.cells #[.int .i64 0, .slice none 0 0, .slice none 0 0] 30)) (fun _ k _ => E.length - (intOf k).toNat)
  case atStart => exact ⟨0, by omega, rfl, hb0, by simpa [flat3] using ho0, ha1, ha2⟩
  case round =>
    clear ho0 hb0 ha1 ha2
    obtain ⟨j, hj, rfl, hb, hown, ha1, ha2⟩ := hrel
    have x2 := cell_at (i := 2) ha1 rfl
    by_cases hlt : j < E.length
    · obtain ⟨b, off, rfl, hbb, z0, z1, z2⟩ := (h.ent.below (hb.mono hB)).get hlt
      have hy := Lib.hid (filter_snoc_yes E (fun y => y.1 != s) j hlt)
      have hn := Lib.hid (filter_snoc_no E (fun y => y.1 != s) j hlt)
      have hfl : ((E.take j).filter (fun y => y.1 != s)).length ≤ 10000 := by
        have h1 := List.length_filter_le (fun y => y.1 != s) (E.take j)
        have h2 : (E.take j).length ≤ E.length := by rw [List.length_take]; omega
        omega
      generalize E[j] = y at z0 z1 z2 hy hn
      obtain ⟨y1, y2, y3⟩ := y
      simp only at z0 z1 z2
      have HA1 := Lib.hid ha1
      have HA2 := Lib.hid ha2
      clear ha1 ha2
      cases q1 : y1 == s
      · have n1 : (y1 != s) = true := bne_of q1
        have hkeep := Lib.hid n1
        go_wp2_with (at_builtin; go_must (refine wpList_append_own _ rfl _ _ 28 rfl (w.heap.size + 2) 75 i0 (.agg #[.int .i64 0, .int .i64 0, .int .i64 0]) 3 24 Try.underlying28 hi0 hz0 hz1 hz2 rfl (by decide) _ _ _ rfl (hown.alloc _) _ 1 1 [.int .i64 y1, .int .i64 y2, .int .i64 y3] rfl rfl ?c1 ?c2 ?c3 ?c4 ?c5 ?_))
        case c2 => simp [Value.oneCell']
        case c3 => unfold maxLen; omega
        case c4 => omega
        case c5 => have := lt_of_block HA2.out; simp; omega
        intro v' w5 hown5 hg5 _
        have hb5 : Below w.heap.size w w5 := (hb.alloc hb.size _).grown hg5 (by have := hb.size; simp; omega) (fun k hk => by have := row_own hown hk; omega)
        have hA1 : Hid (w5.heap[w.heap.size]? = some (.cells #[.int .i64 c, .slice va V.length vcap, .slice (some ⟨b, off, none⟩) E.length ecap] 30)) := (hg5.block _ (by simp; have := lt_of_block HA1.out; omega) (fun e => by have := row_own hown e.symm; omega)).trans (by rw [halloc _ _ (lt_of_block HA1.out)]; exact HA1.out)
        have hA2 : Hid (w5.heap[w.heap.size + 1]? = some (.cells #[.int .i64 0, .slice none 0 0, .slice none 0 0] 30)) := (hg5.block _ (by simp; have := lt_of_block HA2.out; omega) (fun e => by have := row_own hown e.symm; omega)).trans (by rw [halloc _ _ (lt_of_block HA2.out)]; exact HA2.out)
        have hown6 : w5.ownsRow (w.heap.size + 2) 75 3 v' ((E.take (j + 1)).filter (fun y => y.1 != s)).length (flat3 ((E.take (j + 1)).filter (fun y => y.1 != s))) := by
          rw [hy.out hkeep.out, List.length_append, flat3_append]; exact hown5
        clear hown hown5 hg5 hb
        go_wp2
        go_roundw
        case rel => exact ⟨j + 1, by omega, by go_num, hb5, hown6, hA1.out, hA2.out⟩
        case measure => simp [intOf]; omega
      · have n1 : (y1 != s) = false := bne_of q1
        have hkeep := Lib.hid n1
        go_wp2
        go_roundw
        case rel => exact ⟨j + 1, by omega, by go_num, hb, by rw [hn.out hkeep.out]; exact hown, HA1.out, HA2.out⟩
        case measure => simp [intOf]; omega
    · have hk : E.take j = E := List.take_of_length_le (by omega)
      rw [hk] at hown
      clear hk
      obtain ⟨ea', ecap', rfl, -⟩ := tris_of_row hown (fun x hx => h.ent.wf x (List.mem_filter.1 hx).1)
      have x0 := cell_at (i := 0) ha1 rfl
      have x1 := cell_at (i := 1) ha1 rfl
      have f0 := free_at ha1 0
      have f1 := free_at ha1 1
      have f2 := free_at ha1 2
      have r0 := cell_at (i := 0) ha2 rfl
      have r1 := cell_at (i := 1) ha2 rfl
      have r2 := cell_at (i := 2) ha2 rfl
      have g0 := free_at ha2 0
      have g1 := free_at ha2 1
      have g2 := free_at ha2 2
      go_wp2
      have hfin := store_state (w := wr.setCell ⟨w.heap.size, 2, none⟩ (.slice ea' (E.filter (fun y => y.1 != s)).length ecap')) (v0 := .int .i64 c) (v1 := .slice va V.length vcap) (v2 := .slice ea' (E.filter (fun y => y.1 != s)).length ecap') ((Below.heap_setCell _ _ _ _ (by simp)).trans ha2)
      refine ret_state (p := 4) (rb := w.heap.size + 1) rfl rfl rfl hfin ?_
      have hbf := below_store_state (hb.setCell (show w.heap.size ≤ (⟨w.heap.size, 2, none⟩ : Addr).block from Nat.le_refl _) (.slice ea' (E.filter (fun y => y.1 != s)).length ecap')) (rb := w.heap.size + 1) (Nat.le_succ _) (.int .i64 c) (.slice va V.length vcap) (.slice ea' (E.filter (fun y => y.1 != s)).length ecap')
      have hof := own_store_state (ownsRow_setCell_below hown (a := ⟨w.heap.size, 2, none⟩) (show w.heap.size < w.heap.size + 2 by omega) (.slice ea' (E.filter (fun y => y.1 != s)).length ecap')) (rb := w.heap.size + 1) (by omega) (.int .i64 c) (.slice va V.length vcap) (.slice ea' (E.filter (fun y => y.1 != s)).length ecap')
      obtain ⟨ea2, ecap2, heq, hok⟩ := RS.Ok.setE h (hbf.mono hB) (Nat.le_trans hB hbf.size) hof (fun x hx => h.ent.wf x (List.mem_filter.1 hx).1) (Nat.le_trans (List.length_filter_le _ _) hel)
      injection heq with h1 h2 h3
      subst h1 h3
      exact ⟨_, _, rfl, hok c, hbf⟩
end Go.Proofs.Ytbocefnfhnnbjaa

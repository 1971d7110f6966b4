/-
  The walk of the reference's Register. Condition of the contract: fewer than ten thousand entries.
-/
import Derived.Test.YtbocefnfhnnbjaaR8
import Derived.Deep.RegionLaw
import Derived.Laws.ResultCell
namespace Go.Proofs.Ytbocefnfhnnbjaa
open Go.RowKit Go.Sort

theorem k3_alloc {w : World} {b : Nat} {v0 v1 v2 : Value} {o : Obj} (h : w.cell? ⟨b, 0, none⟩ = some v0 ∧ w.cell? ⟨b, 1, none⟩ = some v1 ∧ w.cell? ⟨b, 2, none⟩ = some v2) :
    (w.alloc o).cell? ⟨b, 0, none⟩ = some v0 ∧ (w.alloc o).cell? ⟨b, 1, none⟩ = some v1 ∧ (w.alloc o).cell? ⟨b, 2, none⟩ = some v2 := ⟨cell_alloc1 h.1, cell_alloc1 h.2.1, cell_alloc1 h.2.2⟩
theorem k3_row {w : World} {b : Nat} {v0 v1 v2 : Value} {t : TypeId} (h : w.heap[b]? = some (.cells #[v0, v1, v2] t (0, 0))) :
    w.cell? ⟨b, 0, none⟩ = some v0 ∧ w.cell? ⟨b, 1, none⟩ = some v1 ∧ w.cell? ⟨b, 2, none⟩ = some v2 := ⟨cell_at (i := 0) h rfl, cell_at (i := 1) h rfl, cell_at (i := 2) h rfl⟩
theorem k3_set {w : World} {b : Nat} {v0 v1 v2 : Value} {t : TypeId} {p : Addr} {u : Value} (h : w.heap[b]? = some (.cells #[v0, v1, v2] t (0, 0))) (hp : b ≠ p.block) :
    (w.setCell p u).cell? ⟨b, 0, none⟩ = some v0 ∧ (w.setCell p u).cell? ⟨b, 1, none⟩ = some v1 ∧ (w.setCell p u).cell? ⟨b, 2, none⟩ = some v2 := k3_row ((Below.heap_setCell _ _ _ _ hp).trans h)
theorem lit0t {W : World} {base k : Nat} (e : TypeId) (hk : k = W.heap.size) (hb : base ≤ W.heap.size) : (W.alloc (.cells #[] e)).ownsRow base e 3 (.slice (some ⟨k, 0, none⟩) 0 0) 0 [] := by
  subst hk; exact World.ownsRow_lit (base := base) (e := e) (size := 3) W #[] 0 hb (by simp [maxLen]) rfl
theorem tris_src {w : World} {B b off : Nat} {l : List Tri} (h : Tris w B (some ⟨b, off, none⟩) l) : ∀ j u, (flat3 l)[j]? = some u → w.cell? ((⟨b, off, none⟩ : Addr).add j) = some u := by
  intro j u hj
  rw [add_plain]
  have hne : l ≠ [] := fun e => by subst e; simp [flat3] at hj
  obtain ⟨b', off', e, _, hc⟩ := h.cells hne
  injection e with e; injection e with e1 e2
  rw [e1, e2]; exact hc j u hj
theorem own_joinT {w : World} {base : Nat} {e : TypeId} {v : Value} {E : List Tri} {x : Tri} (h : w.ownsRow base e 3 v (0 + E.length + 1) ([] ++ flat3 E ++ [.int .i64 x.1, .int .i64 x.2.1, .int .i64 x.2.2])) : w.ownsRow base e 3 v (E ++ [x]).length (flat3 (E ++ [x])) := by
  rw [List.length_append, flat3_append, flat3_one]
  simpa using h
theorem ret_state2 {fn : Func} {R : Ending → World → Prop} {a : Act} {w : World} {p u : Tmp} {rb : Nat} {v0 v1 v2 x : Value} (hf : fn.results = #[.cell p 30, .tmp u]) (hp : a.tmps.getD p undef = .pointer (some ⟨rb, 0, none⟩)) (hu : a.tmps.getD u undef = x) (hd : a.defers = [])
    (hg : w.heap[rb]? = some (.cells #[v0, v1, v2] 30 (0, 0))) (hR : R (.returned (.tuple #[.agg #[v0, v1, v2], x])) w) : bodyPost Try.prog fn R .ret a w := by
  refine bodyPost_ret (v := .tuple #[.agg #[v0, v1, v2], x]) ?_ hd hR
  rw [results_cell_tmp hf, hp, hu]
  simp [asAddr, run_loadVar_row (P := Try.prog) w rb 30 30 #[v0, v1, v2] (0, 0) _ hg Try.underlying30 rfl info30, Result.andThen]
theorem k3_state {w : World} {rb sb : Nat} {v0 v1 v2 : Value} (h : w.heap[sb]? = some (.cells #[v0, v1, v2] 30 (0, 0))) (hn : sb ≠ rb) (u0 u1 u2 : Value) :
    (((w.setCell ⟨rb, 0, none⟩ u0).setCell ⟨rb, 1, none⟩ u1).setCell ⟨rb, 2, none⟩ u2).cell? ⟨sb, 0, none⟩ = some v0 ∧ (((w.setCell ⟨rb, 0, none⟩ u0).setCell ⟨rb, 1, none⟩ u1).setCell ⟨rb, 2, none⟩ u2).cell? ⟨sb, 1, none⟩ = some v1 ∧
      (((w.setCell ⟨rb, 0, none⟩ u0).setCell ⟨rb, 1, none⟩ u1).setCell ⟨rb, 2, none⟩ u2).cell? ⟨sb, 2, none⟩ = some v2 :=
  k3_row ((Below.heap_setCell _ _ _ _ hn).trans ((Below.heap_setCell _ _ _ _ hn).trans ((Below.heap_setCell _ _ _ _ hn).trans h)))
theorem of_raw (w : World) (B : Nat) (c : Int) (va : Option Addr) (vcap : Nat) (V : List Tri) (ea : Option Addr) (n ecap : Nat) (id pg : Int) (hv : Tris w B va V) (hvl : V.length ≤ 10000) (hB : B ≤ w.heap.size) :
    Calls Try.prog 19 #[.agg #[.int .i64 c, .slice va V.length vcap, .slice ea n ecap], .int .i64 id, .int .i64 pg] w fun r w' => r = .returned (.int .i64 (ofV V id pg)) ∧ Below w.heap.size w w' := by
  have h := of_any w B ⟨c, va, vcap, V, ea, ecap, List.replicate n (0, 0, 0)⟩ id pg hv hvl hB
  simp only [RS.val, List.length_replicate] at h
  exact h
def regE (E : List Tri) (e : Tri) : List Tri := if E.contains e then E else E ++ [e]

set_option maxHeartbeats 8000000 in
set_option maxRecDepth 100000 in
theorem rregister_any (w : World) (B : Nat) (x : RS) (s id pg : Int) (h : x.Ok w B) (hB : B ≤ w.heap.size) (hs : I64 s) (hi : I64 id) (hp : I64 pg) (hE : x.E.length < 10000) :
    Calls Try.prog 11 #[x.val, .int .i64 s, .int .i64 id, .int .i64 pg] w fun r w' =>
      ∃ ea ecap, r = .returned (.tuple #[RS.val ⟨x.c, x.va, x.vcap, x.V, ea, ecap, regE x.E (s, id, pg)⟩, .int .i64 (ofV x.V id pg)]) ∧ RS.Ok w' w'.heap.size ⟨x.c, x.va, x.vcap, x.V, ea, ecap, regE x.E (s, id, pg)⟩ ∧ Below w.heap.size w w' := by
  obtain ⟨c, va, vcap, V, ea, ecap, E⟩ := x
  unfold RS.val
  simp only at hE
  obtain ⟨i0, hi0, hz0, hz1, hz2⟩ := info_parts info75
  have hb0 : Below w.heap.size w (((w.alloc (.cells #[.int .i64 c, .slice va V.length vcap, .slice ea E.length ecap] 30)).alloc (.cells #[.int .i64 0, .slice none 0 0, .slice none 0 0] 30)).alloc (.cells #[.int .i64 s, .int .i64 id, .int .i64 pg] 75)) := (((Below.refl _ _).alloc (by simp) _).alloc (by simp) _).alloc (by simp; omega) _
  have ha1 : (((w.alloc (.cells #[.int .i64 c, .slice va V.length vcap, .slice ea E.length ecap] 30)).alloc (.cells #[.int .i64 0, .slice none 0 0, .slice none 0 0] 30)).alloc (.cells #[.int .i64 s, .int .i64 id, .int .i64 pg] 75)).heap[w.heap.size]? = some (.cells #[.int .i64 c, .slice va V.length vcap, .slice ea E.length ecap] 30) := by
    rw [halloc _ _ (by simp; omega)]; exact heap_alloc2_old _ _ _
  have ha2 : (((w.alloc (.cells #[.int .i64 c, .slice va V.length vcap, .slice ea E.length ecap] 30)).alloc (.cells #[.int .i64 0, .slice none 0 0, .slice none 0 0] 30)).alloc (.cells #[.int .i64 s, .int .i64 id, .int .i64 pg] 75)).heap[w.heap.size + 1]? = some (.cells #[.int .i64 0, .slice none 0 0, .slice none 0 0] 30) := by
    rw [halloc _ _ (by simp)]; exact heap_alloc2_new _ _ _
  have ha3 : (((w.alloc (.cells #[.int .i64 c, .slice va V.length vcap, .slice ea E.length ecap] 30)).alloc (.cells #[.int .i64 0, .slice none 0 0, .slice none 0 0] 30)).alloc (.cells #[.int .i64 s, .int .i64 id, .int .i64 pg] 75)).heap[w.heap.size + 2]? = some (.cells #[.int .i64 s, .int .i64 id, .int .i64 pg] 75) := by
    have := heap_alloc_new ((w.alloc (.cells #[.int .i64 c, .slice va V.length vcap, .slice ea E.length ecap] 30)).alloc (.cells #[.int .i64 0, .slice none 0 0, .slice none 0 0] 30)) (.cells #[.int .i64 s, .int .i64 id, .int .i64 pg] 75)
    simpa using this
  have hx := h.below (hb0.mono hB)
  have hB1 := Nat.le_trans hB hb0.size
  have hH := has_any _ B ⟨c, va, vcap, V, ea, ecap, E⟩ (s, id, pg) hx hB1 ⟨hs, hi, hp⟩
  simp only [RS.val, kReg] at hH
  have HH := Lib.hid hH
  clear hH
  have hb0s := hb0.size
  go_enter Try.func11, Try.ntmps11
  go_wp2_with fail
  refine HH.out.mono ?_
  rintro e w1 ⟨rfl, hb1⟩
  have hw1 : w.heap.size + 2 < w1.heap.size := Nat.lt_of_lt_of_le (lt_of_block ha3) hb1.size
  have g1 := heap_below hb1 (lt_of_block ha1) ha1
  have g2 := heap_below hb1 (lt_of_block ha2) ha2
  have g3 := heap_below hb1 (lt_of_block ha3) ha3
  have hbw : Below w.heap.size w w1 := hb0.trans (hb1.mono hb0s)
  clear ha1 ha2 ha3 hb1 hb0 hb0s HH hx hB1
  cases hc : E.contains (s, id, pg)
  · have hreg := Lib.hid (show regE E (s, id, pg) = E ++ [(s, id, pg)] by unfold regE; rw [hc]; rfl)
    clear hc
    have hwf2 : ∀ y ∈ E ++ [(s, id, pg)], okR y := fun y hy => by
      rcases List.mem_append.1 hy with h1 | h1
      · exact h.ent.wf y h1
      · simp at h1; subst h1; exact ⟨hs, hi, hp⟩
    have hEz := (h.ent.below (hbw.mono hB)).mono (Nat.le_trans hB hbw.size)
    have hsh := h.esh
    have hes : w.heap.size + 1 + 1 ≠ w.heap.size := by omega
    have g3 : w1.heap[w.heap.size + 1 + 1]? = some (.cells #[.int .i64 s, .int .i64 id, .int .i64 pg] 75) := g3
    go_wp2_with fail
    generalize w1 = wz at hEz g1 g2 g3 hbw hw1 ⊢
    obtain ⟨k00, k01, k02⟩ := k3_row g3
    have x2 : wz.cell? ⟨w.heap.size, 2, none⟩ = some (.slice ea E.length ecap) := cell_at (i := 2) g1 rfl
    have x2a : ∀ o, (wz.alloc o).cell? ⟨w.heap.size, 2, none⟩ = some (.slice ea E.length ecap) := fun o => cell_alloc1 x2
    have x2b : ∀ o o', ((wz.alloc o).alloc o').cell? ⟨w.heap.size, 2, none⟩ = some (.slice ea E.length ecap) := fun o o' => cell_alloc1 (x2a o)
    have k00a : ∀ o, (wz.alloc o).cell? ⟨w.heap.size + 1 + 1, 0, none⟩ = some (.int .i64 s) := fun o => cell_alloc1 k00
    have k01a : ∀ o, (wz.alloc o).cell? ⟨w.heap.size + 1 + 1, 1, none⟩ = some (.int .i64 id) := fun o => cell_alloc1 k01
    have k02a : ∀ o, (wz.alloc o).cell? ⟨w.heap.size + 1 + 1, 2, none⟩ = some (.int .i64 pg) := fun o => cell_alloc1 k02
    rcases hsh with ⟨b, off, hea⟩ | ⟨hea, hec⟩
    · have hea : ea = some ⟨b, off, none⟩ := hea
      subst hea
      go_region_law
        ((first
          | (refine step_append_row wz.heap.size 75 i0 (.agg #[.int .i64 0, .int .i64 0, .int .i64 0]) 3 24 hi0 hz0 hz1 hz2 rfl (by decide) (by decide) rfl (.tmp 19) (.tmp 21) 28 rfl Try.underlying28 _ rfl 0 [] ?own (some ⟨b, off, none⟩) E.length ecap rfl (flat3 E) (flat3_length E) ?src (flat3_one' E) ?small ?base ?_
             case own => exact (lit0t (W := wz) 75 rfl (Nat.le_refl _)).drew
             case src => exact Or.inl ⟨_, rfl, tris_src (hEz.below bel_a1)⟩
             case small => omega
             case base => first | omega | (simp <;> omega)
             intro v1 w1' ho1 hg1
             have hb1 : Below wz.heap.size wz w1' := (bel_a1 (w := wz)).grown hg1 (by simp <;> omega) (fun k hk => by have : wz.heap.size = k := Option.some.inj hk; omega)
             skip
             have hs1 := hb1.size
             obtain ⟨k10, k11, k12⟩ := k3_row (heap_below hb1 (lt_of_block g3) g3)
             clear hg1)
          | (refine step_append_row wz.heap.size 75 i0 (.agg #[.int .i64 0, .int .i64 0, .int .i64 0]) 3 24 hi0 hz0 hz1 hz2 rfl (by decide) (by decide) rfl (.tmp 19) (.tmp 21) 28 rfl Try.underlying28 _ rfl 0 [] ?own (some ⟨b, off, none⟩) E.length ecap rfl (flat3 E) (flat3_length E) ?src (flat3_one' E) ?small ?base ?_
             case own => exact ((lit0t (W := wz) 75 rfl (Nat.le_refl _)).alloc _).drew
             case src => exact Or.inl ⟨_, rfl, tris_src (hEz.below bel_a2)⟩
             case small => omega
             case base => first | omega | (simp <;> omega)
             intro v1 w1' ho1 hg1
             have hb1 : Below wz.heap.size wz w1' := (bel_a2 (w := wz)).grown hg1 (by simp <;> omega) (fun k hk => by have : wz.heap.size = k := Option.some.inj hk; omega)
             have hx1 : w1'.heap[wz.heap.size + 1]? = some (.cells #[.int .i64 s, .int .i64 id, .int .i64 pg] 75) := (hg1.block _ (by simp) (fun e => by have : wz.heap.size + 1 = wz.heap.size := Option.some.inj e; omega)).trans (heap_alloc2_new wz _ _)
             have hs1 := hb1.size
             obtain ⟨k10, k11, k12⟩ := k3_row (heap_below hb1 (lt_of_block g3) g3)
             clear hg1)
          | (refine step_append_row wz.heap.size 75 i0 (.agg #[.int .i64 0, .int .i64 0, .int .i64 0]) 3 24 hi0 hz0 hz1 hz2 rfl (by decide) (by decide) rfl (.tmp 19) (.tmp 21) 28 rfl Try.underlying28 _ rfl 0 [] ?own (some ⟨b, off, none⟩) E.length ecap rfl (flat3 E) (flat3_length E) ?src (flat3_one' E) ?small ?base ?_
             case own => exact (lit0t (W := wz.alloc (.cells #[.int .i64 s, .int .i64 id, .int .i64 pg] 75)) 75 (by simp) (by simp)).drew
             case src => exact Or.inl ⟨_, rfl, tris_src (hEz.below bel_a2)⟩
             case small => omega
             case base => first | omega | (simp <;> omega)
             intro v1 w1' ho1 hg1
             have hb1 : Below wz.heap.size wz w1' := (bel_a2 (w := wz)).grown hg1 (by simp <;> omega) (fun k hk => by have : wz.heap.size + 1 = k := Option.some.inj hk; omega)
             have hx1 : w1'.heap[wz.heap.size]? = some (.cells #[.int .i64 s, .int .i64 id, .int .i64 pg] 75) := (hg1.block _ (by simp <;> omega) (fun e => by have : wz.heap.size = wz.heap.size + 1 := Option.some.inj e; omega)).trans (heap_alloc2_old wz _ _)
             have hs1 := hb1.size
             obtain ⟨k10, k11, k12⟩ := k3_row (heap_below hb1 (lt_of_block g3) g3)
             clear hg1)
          | (refine step_append_row wz.heap.size 75 i0 (.agg #[.int .i64 0, .int .i64 0, .int .i64 0]) 3 24 hi0 hz0 hz1 hz2 rfl (by decide) (by decide) rfl (.tmp 22) (.tmp 24) 28 rfl Try.underlying28 _ rfl _ _ ho1 _ 1 1 rfl [.int .i64 s, .int .i64 id, .int .i64 pg] rfl ?src ?one ?small ?base ?_
             case src => exact Or.inl ⟨_, rfl, news_at (cs := #[.int .i64 s, .int .i64 id, .int .i64 pg]) hx1⟩
             case one => simp [Value.oneCell']
             case small => omega
             case base => first | omega | (simp <;> omega)
             intro v2 w2' ho2 hg2
             have hb2 : Below wz.heap.size wz w2' := hb1.grown hg2 (by first | omega | (simp <;> omega)) (fun k hk => row_own ho1 hk)
             have ho3 := own_joinT (E := E) (x := (s, id, pg)) ho2
             obtain ⟨ea2, ec2, rfl, -⟩ := tris_of_row ho3 hwf2
             have hs2 := hb2.size
             have g1' := heap_below hb2 (lt_of_block g1) g1
             have y2 := cell_at (i := 2) g1' rfl
             have z2 := free_at g1' 2
             clear hg2 ho2)
          | (refine step_append_row wz.heap.size 75 i0 (.agg #[.int .i64 0, .int .i64 0, .int .i64 0]) 3 24 hi0 hz0 hz1 hz2 rfl (by decide) (by decide) rfl (.tmp 22) (.tmp 24) 28 rfl Try.underlying28 _ rfl _ _ (ho1.alloc _) _ 1 1 rfl [.int .i64 s, .int .i64 id, .int .i64 pg] rfl ?src ?one ?small ?base ?_
             case src => exact Or.inl ⟨_, rfl, news_at (cs := #[.int .i64 s, .int .i64 id, .int .i64 pg]) (heap_alloc_new _ _)⟩
             case one => simp [Value.oneCell']
             case small => omega
             case base => first | omega | (simp <;> omega)
             intro v2 w2' ho2 hg2
             have hb2 : Below wz.heap.size wz w2' := (hb1.alloc hs1 _).grown hg2 (by first | omega | (simp <;> omega)) (fun k hk => row_own ho1 hk)
             have ho3 := own_joinT (E := E) (x := (s, id, pg)) ho2
             obtain ⟨ea2, ec2, rfl, -⟩ := tris_of_row ho3 hwf2
             have hs2 := hb2.size
             have g1' := heap_below hb2 (lt_of_block g1) g1
             have y2 := cell_at (i := 2) g1' rfl
             have z2 := free_at g1' 2
             clear hg2 ho2)))
      all_goals
        have hbl : Below w.heap.size w w2' := hbw.trans (hb2.mono hbw.size)
        have g2' := heap_below hb2 (lt_of_block g2) g2
        have hnE : (E ++ [(s, id, pg)]).length = E.length + 1 := by simp
        have hbW := hbl.setCell (show w.heap.size ≤ (⟨w.heap.size, 2, none⟩ : Addr).block from Nat.le_refl _) (.slice ea2 (E.length + 1) ec2)
        have hW1 : (w2'.setCell ⟨w.heap.size, 2, none⟩ (.slice ea2 (E.length + 1) ec2)).heap[w.heap.size]? = some (.cells #[.int .i64 c, .slice va V.length vcap, .slice ea2 (E.length + 1) ec2] 30) := cell_row_any _ _ _ _ _ _ _ g1'
        have hW2 : (w2'.setCell ⟨w.heap.size, 2, none⟩ (.slice ea2 (E.length + 1) ec2)).heap[w.heap.size + 1]? = some (.cells #[.int .i64 0, .slice none 0 0, .slice none 0 0] 30) := (Below.heap_setCell _ _ _ _ (by simp)).trans g2'
        have hoW := ownsRow_setCell_below ho3 (a := ⟨w.heap.size, 2, none⟩) (show w.heap.size < wz.heap.size by omega) (.slice ea2 (E.length + 1) ec2)
        have hwz : w.heap.size + 2 < wz.heap.size := hw1
        clear ho1 ho3 hb1 hb2 g1' g2' y2 z2 hbl x2a x2b k00a k01a k02a k00 k01 k02 x2 hEz g1 g2 g3 k10 k11 k12 hs1 hs2 hi0 hz0 hz1 hz2
        generalize w2'.setCell ⟨w.heap.size, 2, none⟩ (.slice ea2 (E.length + 1) ec2) = W at hbW hW1 hW2 hoW ⊢
        have hkW := k3_row hW1
        have hTV := (h.ver.below (hbW.mono hB))
        have hBW := Nat.le_trans hB hbW.size
        have hvl : V.length ≤ 10000 := h.vl
        go_wp2_with fail
        go_region_held3 (fun w' => w'.cell? ⟨w.heap.size, 0, none⟩ = some (.int .i64 c) ∧ w'.cell? ⟨w.heap.size, 1, none⟩ = some (.slice va V.length vcap) ∧ w'.cell? ⟨w.heap.size, 2, none⟩ = some (.slice ea2 (E.length + 1) ec2)) (first | with_reducible exact k5 | with_reducible exact kS _ _ _ | exact hkW)
          ((go_at_call 19
            refine (of_raw W.drew B c va vcap V ea2 (E.length + 1) ec2 id pg (hTV.below ((below_drew1 (w := W)).mono hBW)) hvl hBW).mono ?_
            rintro e w5 ⟨rfl, hb5⟩
            have hb5 : Below W.heap.size W w5 := below_drew1.trans hb5
            have i1 := heap_below hb5 (lt_of_block hW1) hW1
            have i2 := heap_below hb5 (lt_of_block hW2) hW2
            have kS := k3_state i1 (rb := w.heap.size + 1) (by omega)
            have k5 := k3_row i1
            have r0 := cell_at (i := 0) i2 rfl
            have r1 := cell_at (i := 1) i2 rfl
            have r2 := cell_at (i := 2) i2 rfl
            have f0 := free_at i2 0
            have f1 := free_at i2 1
            have f2 := free_at i2 2))
        go_wp2_with fail
        have hoF := own_store_state (own_below hoW hb5) (rb := w.heap.size + 1) (by omega) (.int .i64 c) (.slice va V.length vcap) (.slice ea2 (E.length + 1) ec2)
        have hbF := below_store_state (hbW.trans (hb5.mono hbW.size)) (rb := w.heap.size + 1) (Nat.le_succ _) (.int .i64 c) (.slice va V.length vcap) (.slice ea2 (E.length + 1) ec2)
        refine ret_state2 (p := 8) (u := 9) (rb := w.heap.size + 1) rfl rfl rfl rfl (store_state i2) ?_
        obtain ⟨ea3, ec3, heq, hok⟩ := RS.Ok.setE h (hbF.mono hB) (Nat.le_trans hB hbF.size) hoF hwf2 (by rw [hnE]; omega)
        injection heq with q1 q2 q3
        subst q1 q3
        rw [hreg.out, hnE]
        exact ⟨_, _, rfl, hok c, hbF⟩
    · have hea : ea = none := hea
      have hec : ecap = 0 := hec
      subst hea hec
      have hE0 : E = [] := by
        cases E with
        | nil => rfl
        | cons y l => obtain ⟨b, off, e, _⟩ := h.ent.cells (by simp); simp at e
      subst hE0
      go_region_law
        ((first
          | (refine step_append_row wz.heap.size 75 i0 (.agg #[.int .i64 0, .int .i64 0, .int .i64 0]) 3 24 hi0 hz0 hz1 hz2 rfl (by decide) (by decide) rfl (.tmp 19) (.tmp 21) 28 rfl Try.underlying28 _ rfl 0 [] ?own none 0 0 rfl (flat3 []) rfl ?src (flat3_one' []) ?small ?base ?_
             case own => exact (lit0t (W := wz) 75 rfl (Nat.le_refl _)).drew
             case src => exact Or.inr ⟨rfl, rfl, rfl⟩
             case small => omega
             case base => first | omega | (simp <;> omega)
             intro v1 w1' ho1 hg1
             have hb1 : Below wz.heap.size wz w1' := (bel_a1 (w := wz)).grown hg1 (by simp <;> omega) (fun k hk => by have : wz.heap.size = k := Option.some.inj hk; omega)
             skip
             have hs1 := hb1.size
             obtain ⟨k10, k11, k12⟩ := k3_row (heap_below hb1 (lt_of_block g3) g3)
             clear hg1)
          | (refine step_append_row wz.heap.size 75 i0 (.agg #[.int .i64 0, .int .i64 0, .int .i64 0]) 3 24 hi0 hz0 hz1 hz2 rfl (by decide) (by decide) rfl (.tmp 19) (.tmp 21) 28 rfl Try.underlying28 _ rfl 0 [] ?own none 0 0 rfl (flat3 []) rfl ?src (flat3_one' []) ?small ?base ?_
             case own => exact ((lit0t (W := wz) 75 rfl (Nat.le_refl _)).alloc _).drew
             case src => exact Or.inr ⟨rfl, rfl, rfl⟩
             case small => omega
             case base => first | omega | (simp <;> omega)
             intro v1 w1' ho1 hg1
             have hb1 : Below wz.heap.size wz w1' := (bel_a2 (w := wz)).grown hg1 (by simp <;> omega) (fun k hk => by have : wz.heap.size = k := Option.some.inj hk; omega)
             have hx1 : w1'.heap[wz.heap.size + 1]? = some (.cells #[.int .i64 s, .int .i64 id, .int .i64 pg] 75) := (hg1.block _ (by simp) (fun e => by have : wz.heap.size + 1 = wz.heap.size := Option.some.inj e; omega)).trans (heap_alloc2_new wz _ _)
             have hs1 := hb1.size
             obtain ⟨k10, k11, k12⟩ := k3_row (heap_below hb1 (lt_of_block g3) g3)
             clear hg1)
          | (refine step_append_row wz.heap.size 75 i0 (.agg #[.int .i64 0, .int .i64 0, .int .i64 0]) 3 24 hi0 hz0 hz1 hz2 rfl (by decide) (by decide) rfl (.tmp 19) (.tmp 21) 28 rfl Try.underlying28 _ rfl 0 [] ?own none 0 0 rfl (flat3 []) rfl ?src (flat3_one' []) ?small ?base ?_
             case own => exact (lit0t (W := wz.alloc (.cells #[.int .i64 s, .int .i64 id, .int .i64 pg] 75)) 75 (by simp) (by simp)).drew
             case src => exact Or.inr ⟨rfl, rfl, rfl⟩
             case small => omega
             case base => first | omega | (simp <;> omega)
             intro v1 w1' ho1 hg1
             have hb1 : Below wz.heap.size wz w1' := (bel_a2 (w := wz)).grown hg1 (by simp <;> omega) (fun k hk => by have : wz.heap.size + 1 = k := Option.some.inj hk; omega)
             have hx1 : w1'.heap[wz.heap.size]? = some (.cells #[.int .i64 s, .int .i64 id, .int .i64 pg] 75) := (hg1.block _ (by simp <;> omega) (fun e => by have : wz.heap.size = wz.heap.size + 1 := Option.some.inj e; omega)).trans (heap_alloc2_old wz _ _)
             have hs1 := hb1.size
             obtain ⟨k10, k11, k12⟩ := k3_row (heap_below hb1 (lt_of_block g3) g3)
             clear hg1)
          | (refine step_append_row wz.heap.size 75 i0 (.agg #[.int .i64 0, .int .i64 0, .int .i64 0]) 3 24 hi0 hz0 hz1 hz2 rfl (by decide) (by decide) rfl (.tmp 22) (.tmp 24) 28 rfl Try.underlying28 _ rfl _ _ ho1 _ 1 1 rfl [.int .i64 s, .int .i64 id, .int .i64 pg] rfl ?src ?one ?small ?base ?_
             case src => exact Or.inl ⟨_, rfl, news_at (cs := #[.int .i64 s, .int .i64 id, .int .i64 pg]) hx1⟩
             case one => simp [Value.oneCell']
             case small => omega
             case base => first | omega | (simp <;> omega)
             intro v2 w2' ho2 hg2
             have hb2 : Below wz.heap.size wz w2' := hb1.grown hg2 (by first | omega | (simp <;> omega)) (fun k hk => row_own ho1 hk)
             have ho3 := own_joinT (E := []) (x := (s, id, pg)) ho2
             obtain ⟨ea2, ec2, rfl, -⟩ := tris_of_row ho3 hwf2
             have hs2 := hb2.size
             have g1' := heap_below hb2 (lt_of_block g1) g1
             have y2 := cell_at (i := 2) g1' rfl
             have z2 := free_at g1' 2
             clear hg2 ho2)
          | (refine step_append_row wz.heap.size 75 i0 (.agg #[.int .i64 0, .int .i64 0, .int .i64 0]) 3 24 hi0 hz0 hz1 hz2 rfl (by decide) (by decide) rfl (.tmp 22) (.tmp 24) 28 rfl Try.underlying28 _ rfl _ _ (ho1.alloc _) _ 1 1 rfl [.int .i64 s, .int .i64 id, .int .i64 pg] rfl ?src ?one ?small ?base ?_
             case src => exact Or.inl ⟨_, rfl, news_at (cs := #[.int .i64 s, .int .i64 id, .int .i64 pg]) (heap_alloc_new _ _)⟩
             case one => simp [Value.oneCell']
             case small => omega
             case base => first | omega | (simp <;> omega)
             intro v2 w2' ho2 hg2
             have hb2 : Below wz.heap.size wz w2' := (hb1.alloc hs1 _).grown hg2 (by first | omega | (simp <;> omega)) (fun k hk => row_own ho1 hk)
             have ho3 := own_joinT (E := []) (x := (s, id, pg)) ho2
             obtain ⟨ea2, ec2, rfl, -⟩ := tris_of_row ho3 hwf2
             have hs2 := hb2.size
             have g1' := heap_below hb2 (lt_of_block g1) g1
             have y2 := cell_at (i := 2) g1' rfl
             have z2 := free_at g1' 2
             clear hg2 ho2)))
      all_goals
        have hbl : Below w.heap.size w w2' := hbw.trans (hb2.mono hbw.size)
        have g2' := heap_below hb2 (lt_of_block g2) g2
        have hnE : (([] : List Tri) ++ [(s, id, pg)]).length = 1 := by simp
        have hbW := hbl.setCell (show w.heap.size ≤ (⟨w.heap.size, 2, none⟩ : Addr).block from Nat.le_refl _) (.slice ea2 1 ec2)
        have hW1 : (w2'.setCell ⟨w.heap.size, 2, none⟩ (.slice ea2 1 ec2)).heap[w.heap.size]? = some (.cells #[.int .i64 c, .slice va V.length vcap, .slice ea2 1 ec2] 30) := cell_row_any _ _ _ _ _ _ _ g1'
        have hW2 : (w2'.setCell ⟨w.heap.size, 2, none⟩ (.slice ea2 1 ec2)).heap[w.heap.size + 1]? = some (.cells #[.int .i64 0, .slice none 0 0, .slice none 0 0] 30) := (Below.heap_setCell _ _ _ _ (by simp)).trans g2'
        have hoW := ownsRow_setCell_below ho3 (a := ⟨w.heap.size, 2, none⟩) (show w.heap.size < wz.heap.size by omega) (.slice ea2 1 ec2)
        have hwz : w.heap.size + 2 < wz.heap.size := hw1
        clear ho1 ho3 hb1 hb2 g1' g2' y2 z2 hbl x2a x2b k00a k01a k02a k00 k01 k02 x2 hEz g1 g2 g3 k10 k11 k12 hs1 hs2 hi0 hz0 hz1 hz2
        generalize w2'.setCell ⟨w.heap.size, 2, none⟩ (.slice ea2 1 ec2) = W at hbW hW1 hW2 hoW ⊢
        have hkW := k3_row hW1
        have hTV := (h.ver.below (hbW.mono hB))
        have hBW := Nat.le_trans hB hbW.size
        have hvl : V.length ≤ 10000 := h.vl
        go_wp2_with fail
        go_region_held3 (fun w' => w'.cell? ⟨w.heap.size, 0, none⟩ = some (.int .i64 c) ∧ w'.cell? ⟨w.heap.size, 1, none⟩ = some (.slice va V.length vcap) ∧ w'.cell? ⟨w.heap.size, 2, none⟩ = some (.slice ea2 1 ec2)) (first | with_reducible exact k5 | with_reducible exact kS _ _ _ | exact hkW)
          ((go_at_call 19
            refine (of_raw W.drew B c va vcap V ea2 1 ec2 id pg (hTV.below ((below_drew1 (w := W)).mono hBW)) hvl hBW).mono ?_
            rintro e w5 ⟨rfl, hb5⟩
            have hb5 : Below W.heap.size W w5 := below_drew1.trans hb5
            have i1 := heap_below hb5 (lt_of_block hW1) hW1
            have i2 := heap_below hb5 (lt_of_block hW2) hW2
            have kS := k3_state i1 (rb := w.heap.size + 1) (by omega)
            have k5 := k3_row i1
            have r0 := cell_at (i := 0) i2 rfl
            have r1 := cell_at (i := 1) i2 rfl
            have r2 := cell_at (i := 2) i2 rfl
            have f0 := free_at i2 0
            have f1 := free_at i2 1
            have f2 := free_at i2 2))
        go_wp2_with fail
        have hoF := own_store_state (own_below hoW hb5) (rb := w.heap.size + 1) (by omega) (.int .i64 c) (.slice va V.length vcap) (.slice ea2 1 ec2)
        have hbF := below_store_state (hbW.trans (hb5.mono hbW.size)) (rb := w.heap.size + 1) (Nat.le_succ _) (.int .i64 c) (.slice va V.length vcap) (.slice ea2 1 ec2)
        refine ret_state2 (p := 8) (u := 9) (rb := w.heap.size + 1) rfl rfl rfl rfl (store_state i2) ?_
        obtain ⟨ea3, ec3, heq, hok⟩ := RS.Ok.setE h (hbF.mono hB) (Nat.le_trans hB hbF.size) hoF hwf2 (by simp)
        injection heq with q1 q2 q3
        subst q1 q3
        rw [hreg.out, hnE]
        exact ⟨_, _, rfl, hok c, hbF⟩
  · have hreg := Lib.hid (show regE E (s, id, pg) = E by unfold regE; rw [hc]; rfl)
    clear hc g3
    generalize w1 = W at g1 g2 hbw hw1 ⊢
    have hW1 := g1
    have hW2 := g2
    have hbW := hbw
    clear g1 g2 hbw hi0 hz0 hz1 hz2
    have hkW := k3_row hW1
    have hTV := (h.ver.below (hbW.mono hB))
    have hBW := Nat.le_trans hB hbW.size
    have hvl : V.length ≤ 10000 := h.vl
    go_wp2_with fail
    go_region_held3 (fun w' => w'.cell? ⟨w.heap.size, 0, none⟩ = some (.int .i64 c) ∧ w'.cell? ⟨w.heap.size, 1, none⟩ = some (.slice va V.length vcap) ∧ w'.cell? ⟨w.heap.size, 2, none⟩ = some (.slice ea E.length ecap)) (first | with_reducible exact k5 | with_reducible exact kS _ _ _ | exact hkW)
      ((go_at_call 19
        refine (of_raw W.drew B c va vcap V ea E.length ecap id pg (hTV.below ((below_drew1 (w := W)).mono hBW)) hvl hBW).mono ?_
        rintro e w5 ⟨rfl, hb5⟩
        have hb5 : Below W.heap.size W w5 := below_drew1.trans hb5
        have i1 := heap_below hb5 (lt_of_block hW1) hW1
        have i2 := heap_below hb5 (lt_of_block hW2) hW2
        have kS := k3_state i1 (rb := w.heap.size + 1) (by omega)
        have k5 := k3_row i1
        have r0 := cell_at (i := 0) i2 rfl
        have r1 := cell_at (i := 1) i2 rfl
        have r2 := cell_at (i := 2) i2 rfl
        have f0 := free_at i2 0
        have f1 := free_at i2 1
        have f2 := free_at i2 2))
    go_wp2_with fail
    have hbF := below_store_state (hbW.trans (hb5.mono hbW.size)) (rb := w.heap.size + 1) (Nat.le_succ _) (.int .i64 c) (.slice va V.length vcap) (.slice ea E.length ecap)
    refine ret_state2 (p := 8) (u := 9) (rb := w.heap.size + 1) rfl rfl rfl rfl (store_state i2) ?_
    rw [hreg.out]
    exact ⟨_, _, rfl, (h.below (hbF.mono hB)).mono (Nat.le_trans hB hbF.size), hbF⟩

end Go.Proofs.Ytbocefnfhnnbjaa

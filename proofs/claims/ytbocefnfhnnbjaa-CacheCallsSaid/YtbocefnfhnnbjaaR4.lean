/-
  Walks of the reference: without, Forget. Condition of the contracts: at most ten thousand entries.
-/
import Derived.Test.YtbocefnfhnnbjaaR3
namespace Go.Proofs.Ytbocefnfhnnbjaa
open Go.RowKit Go.Sort

def keepE (id pg : Int) (x : Tri) : Bool := x.2.1 != id || (x.2.2 != pg && pg != allP)
theorem info75 : (Try.prog.info? 75).map (fun i => (i.zero, i.size, i.bytes)) = some (some (.agg #[.int .i64 0, .int .i64 0, .int .i64 0]), 3, 24) := by kernel_rfl
theorem info86 : (Try.prog.info? 86).map (fun i => (i.zero, i.size, i.bytes)) = some (some (.agg #[.int .i64 0, .int .i64 0, .int .i64 0]), 3, 24) := by kernel_rfl
theorem filter_snoc_yes {α : Type} (l : List α) (p : α → Bool) (j : Nat) (h : j < l.length) (hp : p l[j] = true) : (l.take (j + 1)).filter p = (l.take j).filter p ++ [l[j]] := by
  rw [take_snoc' l j h, List.filter_append]; simp [hp]
theorem filter_snoc_no {α : Type} (l : List α) (p : α → Bool) (j : Nat) (h : j < l.length) (hp : p l[j] = false) : (l.take (j + 1)).filter p = (l.take j).filter p := by
  rw [take_snoc' l j h, List.filter_append]; simp [hp]
theorem bne_of {α : Type} [BEq α] {a b : α} {q : Bool} (h : (a == b) = q) : (a != b) = !q := by rw [← h]; rfl

set_option maxHeartbeats 4000000 in
set_option maxRecDepth 100000 in
theorem without_any (w : World) (B : Nat) (ea : Option Addr) (ecap : Nat) (E : List Tri) (id pg : Int) (h : Tris w B ea E) (hB : B ≤ w.heap.size) (hl : E.length ≤ 10000) :
    Calls Try.prog 33 #[.slice ea E.length ecap, .int .i64 id, .int .i64 pg] w fun r w' =>
      ∃ v, r = .returned v ∧ w'.ownsRow w.heap.size 75 3 v (E.filter (keepE id pg)).length (flat3 (E.filter (keepE id pg))) ∧ Below w.heap.size w w' := by
  obtain ⟨i0, hi0, hz0, hz1, hz2⟩ := info_parts info75
  have hb0 : Below w.heap.size w (w.alloc (.cells #[] 75)) := (Below.refl _ _).alloc (by simp) _
  have ho0 := World.ownsRow_lit (base := w.heap.size) (e := 75) (size := 3) w #[] 0 (Nat.le_refl _) (by simp [maxLen]) rfl
  go_enter Try.func33, Try.ntmps33
  go_wp2
  generalize w.alloc (.cells #[] 75) = w1 at hb0 ho0 ⊢
  go_loopw [7, 8] (fun v k wr => ∃ j : Nat, j ≤ E.length ∧ k = .int .i64 j ∧ Below w.heap.size w wr ∧ wr.ownsRow w.heap.size 75 3 v ((E.take j).filter (keepE id pg)).length (flat3 ((E.take j).filter (keepE id pg)))) (fun _ k _ => E.length - (intOf k).toNat)
  case atStart => exact ⟨0, by omega, rfl, hb0, by simpa [flat3] using ho0⟩
  case round =>
    clear ho0 hb0
    obtain ⟨j, hj, rfl, hb, hown⟩ := hrel
    by_cases hlt : j < E.length
    · obtain ⟨b, off, rfl, hbb, z0, z1, z2⟩ := (h.below (hb.mono hB)).get hlt
      have hy := Lib.hid (filter_snoc_yes E (keepE id pg) j hlt)
      have hn := Lib.hid (filter_snoc_no E (keepE id pg) j hlt)
      have hfl : ((E.take j).filter (keepE id pg)).length ≤ 10000 := by
        have h1 := List.length_filter_le (keepE id pg) (E.take j)
        have h2 : (E.take j).length ≤ E.length := by rw [List.length_take]; omega
        omega
      generalize E[j] = y at z0 z1 z2 hy hn
      obtain ⟨y1, y2, y3⟩ := y
      simp only at z0 z1 z2
      cases q1 : y2 == id
      · have n1 : (y2 != id) = true := bne_of q1
        have hkeep := Lib.hid (show keepE id pg (y1, y2, y3) = true by show (y2 != id || (y3 != pg && pg != allP)) = _; simp [*])
        go_wp2_with (at_builtin; go_must (refine wpList_append_own _ rfl _ _ 28 rfl w.heap.size 75 i0 (.agg #[.int .i64 0, .int .i64 0, .int .i64 0]) 3 24 Try.underlying28 hi0 hz0 hz1 hz2 rfl (by decide) _ _ _ rfl (hown.alloc _) _ 1 1 [.int .i64 y1, .int .i64 y2, .int .i64 y3] rfl rfl ?c1 ?c2 ?c3 ?c4 ?c5 ?_))
        case c1 => exact news_at (cs := #[.int .i64 y1, .int .i64 y2, .int .i64 y3]) (heap_alloc_new _ _)
        case c2 => simp [Value.oneCell']
        case c3 => unfold maxLen; omega
        case c4 => omega
        case c5 => have := hb.size; simp; omega
        intro v' w5 hown5 hg5 _
        have hb5 : Below w.heap.size w w5 := (hb.alloc hb.size _).grown hg5 (by have := hb.size; simp; omega) (fun k hk => by have := row_own hown hk; omega)
        have hown6 : w5.ownsRow w.heap.size 75 3 v' ((E.take (j + 1)).filter (keepE id pg)).length (flat3 ((E.take (j + 1)).filter (keepE id pg))) := by
          rw [hy.out hkeep.out, List.length_append, flat3_append]; exact hown5
        clear hown hown5 hg5 hb
        go_wp2
        go_roundw
        case rel => exact ⟨j + 1, by omega, by go_num, hb5, hown6⟩
        case measure => simp [intOf]; omega
      · have n1 : (y2 != id) = false := bne_of q1
        cases q2 : y3 == pg
        · have n2 : (y3 != pg) = true := bne_of q2
          cases q3 : pg == allP
          · have n3 : (pg != -4611686018427387904) = true := bne_of q3
            have n3' : (pg != allP) = true := bne_of q3
            have hkeep := Lib.hid (show keepE id pg (y1, y2, y3) = true by show (y2 != id || (y3 != pg && pg != allP)) = _; simp [*])
            clear n3'
            go_wp2_with (at_builtin; go_must (refine wpList_append_own _ rfl _ _ 28 rfl w.heap.size 75 i0 (.agg #[.int .i64 0, .int .i64 0, .int .i64 0]) 3 24 Try.underlying28 hi0 hz0 hz1 hz2 rfl (by decide) _ _ _ rfl (hown.alloc _) _ 1 1 [.int .i64 y1, .int .i64 y2, .int .i64 y3] rfl rfl ?c1 ?c2 ?c3 ?c4 ?c5 ?_))
            case c1 => exact news_at (cs := #[.int .i64 y1, .int .i64 y2, .int .i64 y3]) (heap_alloc_new _ _)
            case c2 => simp [Value.oneCell']
            case c3 => unfold maxLen; omega
            case c4 => omega
            case c5 => have := hb.size; simp; omega
            intro v' w5 hown5 hg5 _
            have hb5 : Below w.heap.size w w5 := (hb.alloc hb.size _).grown hg5 (by have := hb.size; simp; omega) (fun k hk => by have := row_own hown hk; omega)
            have hown6 : w5.ownsRow w.heap.size 75 3 v' ((E.take (j + 1)).filter (keepE id pg)).length (flat3 ((E.take (j + 1)).filter (keepE id pg))) := by
              rw [hy.out hkeep.out, List.length_append, flat3_append]; exact hown5
            clear hown hown5 hg5 hb
            go_wp2
            go_roundw
            case rel => exact ⟨j + 1, by omega, by go_num, hb5, hown6⟩
            case measure => simp [intOf]; omega
          · have n3 : (pg != -4611686018427387904) = false := bne_of q3
            have n3' : (pg != allP) = false := bne_of q3
            have hkeep := Lib.hid (show keepE id pg (y1, y2, y3) = false by show (y2 != id || (y3 != pg && pg != allP)) = _; simp [*])
            clear n3'
            go_wp2
            go_roundw
            case rel => exact ⟨j + 1, by omega, by go_num, hb, by rw [hn.out hkeep.out]; exact hown⟩
            case measure => simp [intOf]; omega
        · have n2 : (y3 != pg) = false := bne_of q2
          have hkeep := Lib.hid (show keepE id pg (y1, y2, y3) = false by show (y2 != id || (y3 != pg && pg != allP)) = _; simp [*])
          go_wp2
          go_roundw
          case rel => exact ⟨j + 1, by omega, by go_num, hb, by rw [hn.out hkeep.out]; exact hown⟩
          case measure => simp [intOf]; omega
    · have hk : E.take j = E := List.take_of_length_le (by omega)
      rw [hk] at hown
      clear hk
      go_wp2
      go_ret
      exact ⟨_, rfl, hown, hb⟩

end Go.Proofs.Ytbocefnfhnnbjaa

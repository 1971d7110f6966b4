/-
  The walk of the reference's Holders. Condition of the contract: at most ten thousand entries.
-/
import Derived.Test.YtbocefnfhnnbjaaR7
namespace Go.Proofs.Ytbocefnfhnnbjaa
open Go.RowKit Go.Sort

def hitE (id pg : Int) (x : Tri) : Bool := x.2.1 == id && x.2.2 == pg
def sysE (E : List Tri) (id pg : Int) : List Int := (E.filter (hitE id pg)).map (·.1)
theorem sysE_yes (E : List Tri) (id pg : Int) (j : Nat) (h : j < E.length) (hp : hitE id pg E[j] = true) : sysE (E.take (j + 1)) id pg = sysE (E.take j) id pg ++ [E[j].1] := by
  unfold sysE; rw [filter_snoc_yes E _ j h hp, List.map_append]; rfl
theorem sysE_no (E : List Tri) (id pg : Int) (j : Nat) (h : j < E.length) (hp : hitE id pg E[j] = false) : sysE (E.take (j + 1)) id pg = sysE (E.take j) id pg := by
  unfold sysE; rw [filter_snoc_no E _ j h hp]
theorem sysE_length (E : List Tri) (id pg : Int) : (sysE E id pg).length ≤ E.length := by
  unfold sysE; rw [List.length_map]; exact List.length_filter_le _ _

set_option maxHeartbeats 4000000 in
set_option maxRecDepth 100000 in
theorem rholders_any (w : World) (B : Nat) (x : RS) (id pg : Int) (h : x.Ok w B) (hB : B ≤ w.heap.size) :
    Calls Try.prog 24 #[x.val, .int .i64 id, .int .i64 pg] w fun r w' =>
      ∃ v, r = .returned v ∧ w'.ownsRow w.heap.size 3 1 v (setI (sysE x.E id pg)).length ((setI (sysE x.E id pg)).map (Value.int .i64)) ∧ Below w.heap.size w w' := by
  obtain ⟨c, va, vcap, V, ea, ecap, E⟩ := x
  unfold RS.val
  have hel : E.length ≤ 10000 := h.el
  obtain ⟨i0, hi0, hz0, hz1, hz2⟩ := info_parts info3
  have hb0 : Below w.heap.size w ((w.alloc (.cells #[.int .i64 c, .slice va V.length vcap, .slice ea E.length ecap] 30)).alloc (.cells #[] 3)) := ((Below.refl _ _).alloc (by simp) _).alloc (by simp) _
  have ho0 := lit0 (W := w.alloc (.cells #[.int .i64 c, .slice va V.length vcap, .slice ea E.length ecap] 30)) (base := w.heap.size + 1) (k := w.heap.size + 1) (by simp) (by simp)
  have ha1 := heap_alloc2_old w (.cells #[.int .i64 c, .slice va V.length vcap, .slice ea E.length ecap] 30) (.cells #[] 3)
  go_enter Try.func24, Try.ntmps24
  go_wp2
  generalize (w.alloc (.cells #[.int .i64 c, .slice va V.length vcap, .slice ea E.length ecap] 30)).alloc (.cells #[] 3) = w1 at hb0 ho0 ha1 ⊢
  go_loopw [7, 8] (fun v k wr => ∃ j : Nat, j ≤ E.length ∧ k = .int .i64 j ∧ Below w.heap.size w wr ∧ wr.ownsRow (w.heap.size + 1) 3 1 v (sysE (E.take j) id pg).length ((sysE (E.take j) id pg).map (Value.int .i64)) ∧
      wr.heap[w.heap.size]? = some (.cells #[.int .i64 c, .slice va V.length vcap, .slice ea E.length ecap] 30)) (fun _ k _ => E.length - (intOf k).toNat)
  case atStart => exact ⟨0, by omega, rfl, hb0, by simpa [sysE] using ho0, ha1⟩
  case round =>
    clear ho0 hb0 ha1
    obtain ⟨j, hj, rfl, hb, hown, ha1⟩ := hrel
    have x2 := cell_at (i := 2) ha1 rfl
    by_cases hlt : j < E.length
    · obtain ⟨b, off, rfl, hbb, z0, z1, z2⟩ := (h.ent.below (hb.mono hB)).get hlt
      have hy := Lib.hid (sysE_yes E id pg j hlt)
      have hn := Lib.hid (sysE_no E id pg j hlt)
      have hfl : (sysE (E.take j) id pg).length ≤ 10000 := by
        have h1 := sysE_length (E.take j) id pg
        rw [List.length_take] at h1
        omega
      generalize E[j] = y at z0 z1 z2 hy hn
      obtain ⟨y1, y2, y3⟩ := y
      simp only at z0 z1 z2
      have HA1 := Lib.hid ha1
      have hs1 := lt_of_block ha1
      clear ha1
      cases q1 : y2 == id
      · have hkeep := Lib.hid (show hitE id pg (y1, y2, y3) = false by show (y2 == id && y3 == pg) = false; rw [q1]; rfl)
        go_wp2
        go_roundw
        case rel => exact ⟨j + 1, by omega, by go_num, hb, by rw [hn.out hkeep.out]; exact hown, HA1.out⟩
        case measure => simp [intOf]; omega
      · cases q2 : y3 == pg
        · have hkeep := Lib.hid (show hitE id pg (y1, y2, y3) = false by show (y2 == id && y3 == pg) = false; rw [q1, q2]; rfl)
          go_wp2
          go_roundw
          case rel => exact ⟨j + 1, by omega, by go_num, hb, by rw [hn.out hkeep.out]; exact hown, HA1.out⟩
          case measure => simp [intOf]; omega
        · have hkeep := Lib.hid (show hitE id pg (y1, y2, y3) = true by show (y2 == id && y3 == pg) = true; rw [q1, q2]; rfl)
          go_wp2_with (at_builtin; go_must (refine wpList_append_own _ rfl _ _ 31 rfl (w.heap.size + 1) 3 i0 (.int .i64 0) 1 8 Try.underlying31 hi0 hz0 hz1 hz2 rfl (by decide) _ _ _ rfl (hown.alloc _) _ 1 1 [.int .i64 y1] rfl rfl ?d1 ?d2 ?d3 ?d4 ?d5 ?_))
          case d2 => simp [Value.oneCell']
          case d3 => unfold maxLen; omega
          case d4 => omega
          case d5 => first | omega | (simp; omega)
          intro v' w5 hown5 hg5 _
          have hb5 : Below w.heap.size w w5 := (hb.alloc hb.size _).grown hg5 (by have := hb.size; simp; omega) (fun k hk => by have := row_own hown hk; omega)
          have hA1 : Hid (w5.heap[w.heap.size]? = some (.cells #[.int .i64 c, .slice va V.length vcap, .slice (some ⟨b, off, none⟩) E.length ecap] 30)) := (hg5.block _ (by simp; have := lt_of_block HA1.out; omega) (fun e => by have := row_own hown e.symm; omega)).trans (by rw [halloc _ _ (lt_of_block HA1.out)]; exact HA1.out)
          have hown6 : w5.ownsRow (w.heap.size + 1) 3 1 v' (sysE (E.take (j + 1)) id pg).length ((sysE (E.take (j + 1)) id pg).map (Value.int .i64)) := by
            rw [hy.out hkeep.out, List.length_append, List.map_append]; exact hown5
          clear hown hown5 hg5 hb
          go_wp2
          go_roundw
          case rel => exact ⟨j + 1, by omega, by go_num, hb5, hown6, hA1.out⟩
          case measure => simp [intOf]; omega
    · have hk : E.take j = E := List.take_of_length_le (by omega)
      rw [hk] at hown
      clear hk
      obtain ⟨va', vc', rfl, hI⟩ := ints_of_row hown (fun z hz => by
        unfold sysE at hz
        obtain ⟨y, hy, rfl⟩ := List.mem_map.1 hz
        exact (h.ent.wf y (List.mem_filter.1 hy).1).1)
      have hsl := sysE_length E id pg
      have hsz := hb.size
      have hS := set_any wr wr.heap.size va' vc' (sysE E id pg) hI (Nat.le_refl _) (by omega)
      have HS := Lib.hid hS
      clear hS
      go_wp2_with fail
      refine HS.out.mono ?_
      rintro e w5 ⟨v, rfl, ho, hb5⟩
      go_wp2
      go_ret
      exact ⟨v, rfl, own_mono ho hsz, hb.trans (hb5.mono hsz)⟩

end Go.Proofs.Ytbocefnfhnnbjaa

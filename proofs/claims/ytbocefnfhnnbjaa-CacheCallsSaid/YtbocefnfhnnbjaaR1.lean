/-
  Walks of the reference: has, Of. Condition of the contracts: at most a million entries.
-/
import Derived.Test.YtbocefnfhnnbjaaR0
namespace Go.Proofs.Ytbocefnfhnnbjaa
open Go.RowKit Go.Sort

/-- A state of the reference. -/
structure RS where
  c : Int
  va : Option Addr
  vcap : Nat
  V : List Tri
  ea : Option Addr
  ecap : Nat
  E : List Tri
def RS.val (x : RS) : Value := .agg #[.int .i64 x.c, .slice x.va x.V.length x.vcap, .slice x.ea x.E.length x.ecap]
def plainA (a : Option Addr) (cap : Nat) : Prop := (∃ b off, a = some ⟨b, off, none⟩) ∨ (a = none ∧ cap = 0)
structure RS.Ok (w : World) (B : Nat) (x : RS) : Prop where
  ver : Tris w B x.va x.V
  ent : Tris w B x.ea x.E
  vsh : plainA x.va x.vcap
  esh : plainA x.ea x.ecap
  vl : x.V.length ≤ 10000
  el : x.E.length ≤ 10000
theorem RS.Ok.below {w w' : World} {B x} (h : RS.Ok w B x) (hb : Below B w w') : RS.Ok w' B x := ⟨h.ver.below hb, h.ent.below hb, h.vsh, h.esh, h.vl, h.el⟩
theorem RS.Ok.mono {w : World} {B B' x} (h : RS.Ok w B x) (hB : B ≤ B') : RS.Ok w B' x := ⟨h.ver.mono hB, h.ent.mono hB, h.vsh, h.esh, h.vl, h.el⟩

theorem contains_none {l : List Tri} {e : Tri} (h : ∀ j (hj : j < l.length), l[j] ≠ e) : l.contains e = false := by
  rw [Bool.eq_false_iff]; intro hc
  rw [List.contains_iff_mem] at hc
  obtain ⟨j, hj, he⟩ := List.getElem_of_mem hc
  exact h j hj he

set_option maxHeartbeats 1000000 in
set_option maxRecDepth 100000 in
theorem has_any (w : World) (B : Nat) (x : RS) (e : Tri) (h : x.Ok w B) (hB : B ≤ w.heap.size) (he : okR e) :
    Calls Try.prog 28 #[x.val, kReg e] w fun r w' => r = .returned (.bool (x.E.contains e)) ∧ Below w.heap.size w w' := by
  obtain ⟨c, va, vcap, V, ea, ecap, E⟩ := x
  obtain ⟨e1, e2, e3⟩ := e
  unfold RS.val kReg
  have hb0 : Below w.heap.size w ((w.alloc (.cells #[.int .i64 c, .slice va V.length vcap, .slice ea E.length ecap] 30)).alloc (.cells #[.int .i64 e1, .int .i64 e2, .int .i64 e3] 75)) := ((Below.refl _ _).alloc (by simp) _).alloc (by simp) _
  have ha1 := heap_alloc2_old w (.cells #[.int .i64 c, .slice va V.length vcap, .slice ea E.length ecap] 30) (.cells #[.int .i64 e1, .int .i64 e2, .int .i64 e3] 75)
  have ha2 := heap_alloc2_new w (.cells #[.int .i64 c, .slice va V.length vcap, .slice ea E.length ecap] 30) (.cells #[.int .i64 e1, .int .i64 e2, .int .i64 e3] 75)
  have hE : Tris _ B ea E := h.ent.below (hb0.mono hB)
  have hl : E.length ≤ 10000 := h.el
  go_enter Try.func28, Try.ntmps28
  go_wp2
  generalize (w.alloc (.cells #[.int .i64 c, .slice va V.length vcap, .slice ea E.length ecap] 30)).alloc (.cells #[.int .i64 e1, .int .i64 e2, .int .i64 e3] 75) = w1 at hb0 ha1 ha2 hE ⊢
  go_loopw [5] (fun k wr => ∃ j : Nat, j ≤ E.length ∧ k = .int .i64 j ∧ Below w.heap.size w wr ∧ Below w1.heap.size w1 wr ∧ (∀ i (hi : i < E.length), i < j → E[i] ≠ (e1, e2, e3))) (fun k _ => E.length - (intOf k).toNat)
  case atStart => exact ⟨0, by omega, rfl, hb0, Below.refl _ _, fun _ _ hj => by omega⟩
  case round =>
    obtain ⟨j, hj, rfl, hb, hb1, hn⟩ := hrel
    have HN := Lib.hid hn
    clear hn hb0
    have x2 : wr.cell? ⟨w.heap.size, 2, none⟩ = some (.slice ea E.length ecap) := cell_at (i := 2) (heap_below hb1 (lt_of_block ha1) ha1) rfl
    have y0 := cell_at (i := 0) (heap_below hb1 (lt_of_block ha2) ha2) rfl
    have y1 := cell_at (i := 1) (heap_below hb1 (lt_of_block ha2) ha2) rfl
    have y2 := cell_at (i := 2) (heap_below hb1 (lt_of_block ha2) ha2) rfl
    by_cases hlt : j < E.length
    · obtain ⟨b, off, rfl, hbb, z0, z1, z2⟩ := (hE.below (hb1.mono (by have := lt_of_block ha2; omega))).get hlt
      have hst : ¬ E[j] = (e1, e2, e3) → ∀ i (hi : i < E.length), i < j + 1 → E[i] ≠ (e1, e2, e3) := fun hne i hi hij => by
        rcases Nat.lt_or_ge i j with h1 | h1
        · exact HN.out i hi h1
        · have : i = j := by omega
          subst this; exact hne
      have HS := Lib.hid hst
      have hmem := Lib.hid (List.getElem_mem hlt)
      clear hst
      generalize E[j] = y at z0 z1 z2 HS hmem
      obtain ⟨y1', y2', y3'⟩ := y
      simp only at z0 z1 z2
      by_cases q1 : y1' = e1
      · subst q1
        by_cases q2 : y2' = e2
        · subst q2
          by_cases q3 : y3' = e3
          · subst q3
            go_wp2_with fail
            go_region
            go_wp2
            go_ret
            exact ⟨ret_bool (List.contains_iff_mem.2 hmem.out).symm, below_drewN hb 1⟩
          · go_wp2_with fail
            go_region
            go_wp2
            go_roundw
            case rel => exact ⟨j + 1, by omega, by go_num, below_drewN hb 1, below_drewN hb1 1, HS.out (by simpa using q3)⟩
            case measure => simp [intOf]; omega
        · go_wp2_with fail
          go_region
          go_wp2
          go_roundw
          case rel => exact ⟨j + 1, by omega, by go_num, below_drewN hb 1, below_drewN hb1 1, HS.out (by simp [q2])⟩
          case measure => simp [intOf]; omega
      · go_wp2_with fail
        go_region
        go_wp2
        go_roundw
        case rel => exact ⟨j + 1, by omega, by go_num, below_drewN hb 1, below_drewN hb1 1, HS.out (by simp [q1])⟩
        case measure => simp [intOf]; omega
    · go_wp2
      go_ret
      exact ⟨ret_bool (contains_none (fun i hi => HN.out i hi (by omega))).symm, hb⟩

end Go.Proofs.Ytbocefnfhnnbjaa

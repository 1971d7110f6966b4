/-
  Walks of the reference: Ints, Valid. Condition of the contracts: at most ten thousand entries and versions, a million numbers.
-/
import Derived.Test.YtbocefnfhnnbjaaR2
namespace Go.Proofs.Ytbocefnfhnnbjaa
open Go.RowKit Go.Sort

theorem eq_of_get {l m : List Int} (hl : l.length = m.length) (h : ∀ j (h1 : j < l.length) (h2 : j < m.length), l[j] = m[j]) : l = m := List.ext_getElem hl h

set_option maxHeartbeats 1000000 in
theorem ints_any (w : World) (B B' : Nat) (a b : Option Addr) (ca cb : Nat) (l m : List Int) (h : Ints w B a l) (k : Ints w B' b m) (hl : l.length ≤ 1000000) (hB : B ≤ w.heap.size) (hB' : B' ≤ w.heap.size) :
    Calls Try.prog 22 #[.slice a l.length ca, .slice b m.length cb] w fun r w' => r = .returned (.bool (decide (l = m))) ∧ Below w.heap.size w w' := by
  by_cases hn : l.length = m.length
  · go_enter Try.func22, Try.ntmps22
    rw [← hn]
    go_wp2
    go_loopw [5] (fun x wr => ∃ j : Nat, j ≤ l.length ∧ x = .int .i64 j ∧ Below w.heap.size w wr ∧ (∀ i (h1 : i < l.length) (h2 : i < m.length), i < j → l[i] = m[i])) (fun x _ => l.length - (intOf x).toNat)
    case atStart => exact ⟨0, by omega, rfl, Below.refl _ _, fun _ _ _ hj => by omega⟩
    case round =>
      obtain ⟨j, hj, rfl, hb, he⟩ := hrel
      have HE := Lib.hid he
      clear he
      by_cases hlt : j < l.length
      · have hlt2 : j < m.length := by omega
        obtain ⟨b1, o1, rfl, p1, p2⟩ := (h.below (hb.mono hB)).get hlt
        obtain ⟨b2, o2, rfl, q1, q2⟩ := (k.below (hb.mono hB')).get hlt2
        have hst : l[j] = m[j] → ∀ i (h1 : i < l.length) (h2 : i < m.length), i < j + 1 → l[i] = m[i] := fun e i h1 h2 hij => by
          rcases Nat.lt_or_ge i j with h3 | h3
          · exact HE.out i h1 h2 h3
          · have : i = j := by omega
            subst this; exact e
        have HS := Lib.hid hst
        have HN : Hid (l[j] ≠ m[j] → l ≠ m) := fun e1 e2 => e1 (by subst e2; rfl)
        clear hst
        generalize l[j] = y at p2 HS HN
        generalize m[j] = z at q2 HS HN
        cases hyz : y == z
        · have hyz2 : (y != z) = true := by simp [bne, hyz]
          go_wp2_with fail
          go_region
          go_wp2
          go_ret
          exact ⟨ret_bool (by simpa using HN.out (by simpa using hyz)), below_drewN hb 1⟩
        · have hyz2 : (y != z) = false := by simp [bne, hyz]
          go_wp2_with fail
          go_region
          go_wp2
          go_roundw
          case rel => exact ⟨j + 1, by omega, by go_num, below_drewN hb 1, HS.out (by simpa using hyz)⟩
          case measure => simp [intOf]; omega
      · go_wp2
        go_ret
        exact ⟨ret_bool (decide_eq_true (eq_of_get hn (fun i h1 h2 => HE.out i h1 h2 (by omega)))).symm, hb⟩
  · have hne : l ≠ m := fun e => hn (by rw [e])
    have HN := Lib.hid hne
    have hnz : ¬ (l.length : Int) = m.length := by omega
    go_enter Try.func22, Try.ntmps22
    go_wp2
    go_ret
    exact ⟨ret_bool (decide_eq_false HN.out).symm, Below.refl _ _⟩

set_option maxHeartbeats 1000000 in
set_option maxRecDepth 100000 in
theorem rvalid_any (w : World) (B : Nat) (x : RS) (s id pg v : Int) (h : x.Ok w B) (hB : B ≤ w.heap.size) (hs : I64 s) (hi : I64 id) (hp : I64 pg) :
    Calls Try.prog 21 #[x.val, .int .i64 s, .int .i64 id, .int .i64 pg, .int .i64 v] w fun r w' => r = .returned (.bool (x.E.contains (s, id, pg) && ofV x.V id pg == v)) ∧ Below w.heap.size w w' := by
  have hb0 : Below w.heap.size w (w.alloc (.cells #[.int .i64 x.c, .slice x.va x.V.length x.vcap, .slice x.ea x.E.length x.ecap] 30)) := (Below.refl _ _).alloc (by simp) _
  have ha1 := heap_alloc_new w (.cells #[.int .i64 x.c, .slice x.va x.V.length x.vcap, .slice x.ea x.E.length x.ecap] 30)
  have hx := h.below (hb0.mono hB)
  have hB1 : B ≤ (w.alloc (.cells #[.int .i64 x.c, .slice x.va x.V.length x.vcap, .slice x.ea x.E.length x.ecap] 30)).heap.size := by simp; omega
  rw [show x.val = .agg #[.int .i64 x.c, .slice x.va x.V.length x.vcap, .slice x.ea x.E.length x.ecap] from rfl]
  have HV := Lib.hid (show x.val = .agg #[.int .i64 x.c, .slice x.va x.V.length x.vcap, .slice x.ea x.E.length x.ecap] from rfl)
  have c0 := cell_at (i := 0) ha1 rfl
  have c1 := cell_at (i := 1) ha1 rfl
  have c2 := cell_at (i := 2) ha1 rfl
  have hE := has_any _ B x (s, id, pg) hx hB1 ⟨hs, hi, hp⟩
  rw [HV.out, show kReg (s, id, pg) = .agg #[.int .i64 s, .int .i64 id, .int .i64 pg] from rfl] at hE
  have HE := Lib.hid hE
  clear hE
  cases hc : x.E.contains (s, id, pg)
  · have HC := Lib.hid hc
    clear hc
    go_enter Try.func21, Try.ntmps21
    go_wp2_with (go_at_call 28; refine HE.out.mono ?_; rintro e w1 ⟨rfl, hb1⟩; rw [HC.out])
    go_ret
    exact ⟨ret_bool (by simp), hb0.trans (hb1.mono hb0.size)⟩
  · have HC := Lib.hid hc
    clear hc
    go_enter Try.func21, Try.ntmps21
    go_wp2_with fail
    refine HE.out.mono ?_
    rintro e w1 ⟨rfl, hb1⟩
    rw [HC.out]
    have ha2 := heap_below hb1 (lt_of_block ha1) ha1
    have d0 := cell_at (i := 0) ha2 rfl
    have d1 := cell_at (i := 1) ha2 rfl
    have d2 := cell_at (i := 2) ha2 rfl
    have hO := of_any w1 B x id pg (hx.below (hb1.mono hB1)).ver h.vl (by have := hb1.size; omega)
    rw [HV.out] at hO
    have HO := Lib.hid hO
    clear hO
    go_wp2_with fail
    refine HO.out.mono ?_
    rintro e w2 ⟨rfl, hb2⟩
    go_wp2
    go_ret
    exact ⟨ret_bool (by simp), (hb0.trans (hb1.mono hb0.size)).trans (hb2.mono (by have := hb0.size; have := hb1.size; omega))⟩

end Go.Proofs.Ytbocefnfhnnbjaa

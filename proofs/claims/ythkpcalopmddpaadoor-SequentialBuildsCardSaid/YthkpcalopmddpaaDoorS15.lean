/-
  Walks: records of the same length, packed by the reference. Conditions: valid sizes, at most 1000 records of the length.
-/
import Derived.Test.YthkpcalopmddpaaDoorS4
import Derived.Test.YthkpcalopmddpaaDoorS12
namespace Go.Proofs.YthkpcalopmddpaaDoor
open Go.RowKit Go.Sort
attribute [local go_sem] ByteArray.mk_append_mk strOfNums_size ext_drop ext_take

theorem stepB_new (most j : Nat) (out : List By) (r : By) (h : j % most = 0) : stepB most (j, out) r = (j + 1, out ++ [[] ++ r]) := by
  unfold stepB; simp only; rw [if_pos h]; rfl
theorem stepB_old (most j : Nat) (out : List By) (a r : By) (h : ¬ j % most = 0) : stepB most (j, out ++ [a]) r = (j + 1, out ++ [a ++ r]) := by
  unfold stepB; simp only; rw [if_neg h, putLast_snoc]

theorem own_empty (w : World) (t : TypeId) : (w.alloc (.cells #[] t)).ownsRow w.heap.size t 1 (.slice (some ⟨w.heap.size, 0, none⟩) 0 0) 0 [] :=
  ⟨by simp, Or.inr ⟨_, 0, #[], rfl, Nat.le_refl _, heap_alloc_new _ _, by simp, by decide, by simp, by simp⟩⟩
/-- What the reference's loop holds. -/
structure FbSt (w : World) (most : Nat) (l V : List By) (W : World) (j : Nat) (out : List By) (v : Value) : Prop where
  bel : Below w.heap.size w W
  own : W.ownsRow w.heap.size 9 1 v out.length (out.map sv)
  tot : V = ((l.drop j).foldl (stepB most) (j, out)).2
  ne : 0 < j → out ≠ []
  sml : ∀ x ∈ out, x.length ≤ 1000 * j
  few : out.length ≤ j

/-- All texts before the j-th are of a kind. -/
structure AllTo (p : By → Bool) (l : List By) (j : Nat) : Prop where
  all : ∀ i (h : i < l.length), i < j → p l[i] = true
theorem AllTo.zero (p : By → Bool) (l : List By) : AllTo p l 0 := ⟨fun i _ h => absurd h (by omega)⟩
theorem AllTo.succ {p : By → Bool} {l : List By} {j : Nat} (h : AllTo p l j) (hj : j < l.length) (hp : p l[j] = true) : AllTo p l (j + 1) :=
  ⟨fun i hi h2 => by
    rcases Nat.lt_or_ge i j with h3 | h3
    · exact h.all i hi h3
    · have e : i = j := by omega
      subst e; exact hp⟩
theorem AllTo.done {p : By → Bool} {l : List By} {j : Nat} (h : AllTo p l j) (hj : l.length ≤ j) : l.all p = true := by
  rw [List.all_eq_true]; intro x hx
  obtain ⟨i, hi, rfl⟩ := List.mem_iff_getElem.1 hx
  exact h.all i hi (by omega)
theorem all_bad {p : By → Bool} {l : List By} {j : Nat} (hj : j < l.length) (hp : p l[j] = false) : l.all p = false := by
  rw [List.all_eq_false]; exact ⟨l[j], List.getElem_mem hj, by rw [hp]; simp⟩
/-- What a packing gives: the blocks, or that a record is not allowed. -/
structure PackPost (w : World) (ok : Bool) (V : List By) (e : Ending) (w' : World) : Prop where
  good : ok = true → ∃ v, e = .returned (.tuple #[v, .int .i64 0]) ∧ w'.ownsRow w.heap.size 9 1 v V.length (V.map sv)
  bad : ok = false → e = .returned (.tuple #[.slice none 0 0, .int .i64 2])
  bel : Below w.heap.size w w'

set_option maxRecDepth 100000 in
set_option maxHeartbeats 4000000 in
theorem rfpack_any (w : World) (B : Nat) (a : Option Addr) (cap : Nat) (l : List By) (len blk : Nat) (h : Strs w B a l) (hB : B ≤ w.heap.size) (hl : l.length ≤ 1000) (hv : fixV len blk = true) :
    Calls Tryd.prog 60 #[.int .i64 len, .int .i64 blk, .slice a l.length cap] w fun e w' => PackPost w (l.all fun r => decide (r.length = len)) (fixB (blk / len) l) e w' := by
  have hbd : 1 ≤ (len : Int) ∧ (len : Int) ≤ 1000 ∧ (len : Int) ≤ blk ∧ (blk : Int) ≤ 1024 := by simp [fixV] at hv; omega
  obtain ⟨d1, d2, d3, d4⟩ := hbd
  have hm1 : 1 ≤ blk / len := (Nat.le_div_iff_mul_le (by omega)).2 (by omega)
  have hm2 : blk / len ≤ 1024 := Nat.le_trans (Nat.div_le_self _ _) (by omega)
  have hmost := fun W => rmost_any len blk W hv
  have HV := Lib.hid hv
  clear hv
  obtain ⟨i0, hi0, hz0, hz1, hz2⟩ := info_parts info9
  have hT0 : fixB (blk / len) l = ((l.drop 0).foldl (stepB (blk / len)) (0, [])).2 := rfl
  generalize fixB (blk / len) l = V at hT0 ⊢
  generalize blk / len = most at hT0 hmost hm1 hm2
  have HT0 := Lib.hid hT0
  have HM := Lib.hid hmost
  clear hT0 hmost
  go_enter Tryd.func60, Tryd.ntmps60
  go_wp2_with fail
  refine (rfix_valid _ _ _).mono ?_
  rintro e w1 ⟨rfl, rfl⟩
  rw [HV.out]
  go_wp2_with fail
  have hbz := (Below.refl w.heap.size w).alloc (Nat.le_refl _) (.cells #[] 9)
  have HS := Lib.hid (show FbSt w most l V (w.alloc (.cells #[] 9)) 0 [] (.slice (some ⟨w.heap.size, 0, none⟩) 0 0) from ⟨hbz, own_empty _ _, HT0.out, fun h => absurd h (by omega), by simp, Nat.le_refl _⟩)
  clear HT0 hbz
  go_loopw [8, 9] (fun o k wr => ∃ j out, j ≤ l.length ∧ k = .int .i64 (j : Nat) ∧ FbSt w most l V wr j out o ∧ AllTo (fun r => decide (r.length = len)) l j) (fun _ k _ => l.length - (intOf k).toNat)
  case atStart => exact ⟨0, [], by omega, rfl, HS.out, AllTo.zero _ _⟩
  case round =>
    clear HS
    obtain ⟨j, out, hj, rfl, hS, hall⟩ := hrel
    have HA := Lib.hid hall
    clear hall
    have hfew := hS.few
    have hol : out.length ≤ 1000 := by omega
    have HO := Lib.hid hS.own
    have HB := Lib.hid hS.bel
    have hsml := hS.sml
    have hne := hS.ne
    by_cases hlt : j < l.length
    · obtain ⟨b, off, rfl, hbb, hc⟩ := (h.below (hS.bel.mono hB)).get hlt
      by_cases hkk : l[j].length = len
      rotate_left
      · have HF := Lib.hid (all_bad (p := fun r => decide (r.length = len)) hlt (decide_eq_false hkk))
        generalize l[j] = r at hc hkk
        have hne1 : ((r.length : Int) == (len : Int)) = false := by simp; omega
        have hne2 : ((r.length : Int) != (len : Int)) = true := by simp; omega
        clear hkk
        go_wp2_with fail
        go_ret2
        exact ⟨fun h => (by rw [HF.out] at h; cases h), fun _ => rfl, HB.out⟩
      have HA2 := Lib.hid (HA.out.succ hlt (decide_eq_true hkk))
      have htot := hS.tot
      rw [List.drop_eq_getElem_cons hlt, List.foldl_cons] at htot
      clear hS
      generalize l[j] = r at hc hkk htot
      have hrl : r.length ≤ 1000 := by omega
      have hne1 : ((r.length : Int) == (len : Int)) = true := by rw [hkk]; simp
      have hne2 : ((r.length : Int) != (len : Int)) = false := by rw [hkk]; simp
      clear hkk
      go_wp2_with fail
      refine (HM.out _).mono ?_
      rintro e w1 ⟨rfl, rfl⟩
      clear hne1 hne2
      obtain ⟨k, hk0⟩ : ∃ k, k = j % most := ⟨_, rfl⟩
      have m1 : (j : Int).tmod (most : Int) = (k : Int) := by rw [Int.tmod_eq_emod_of_nonneg (by omega), hk0]; simp
      by_cases hz : k = 0
      · subst hz
        rw [stepB_new _ _ _ _ hk0.symm] at htot
        clear hk0
        have HT := Lib.hid htot
        clear htot
        have hown2 := HO.out
        go_wp2_with (at_builtin; go_must (refine wpList_append_own _ rfl _ _ 24 rfl w.heap.size 9 i0 (.string ByteArray.empty) 1 16 Tryd.underlying24 hi0 hz0 hz1 hz2 rfl (by decide) _ _ _ rfl (hown2.alloc _) _ 1 1 [.string ⟨([] : By).toArray⟩] rfl rfl ?e11 ?e21 ?e31 ?e41 ?e51 ?_))
        case e11 => exact news_at (cs := #[.string ⟨([] : By).toArray⟩]) (heap_alloc_new _ _)
        case e21 => simp [Value.oneCell']
        case e31 => unfold maxLen; (try simp); omega
        case e41 => (try simp); omega
        case e51 => have := HB.out.size; simp at this ⊢; omega
        intro v6 w6 hown6 hg6 _
        have hbA := HB.out.alloc HB.out.size (.cells #[.string ⟨([] : By).toArray⟩] 9)
        have hb6 := hbA.grown hg6 hbA.size (fun k hk => row_own hown2 hk)
        have hown7 : w6.ownsRow w.heap.size 9 1 v6 (out ++ [[]]).length ((out ++ [[]]).map sv) := by simpa [sv] using hown6
        have hcw := (hb6.cell (p := ⟨b, off + j, none⟩) (Nat.lt_of_lt_of_le hbb hB)).trans (((HB.out.cell (p := ⟨b, off + j, none⟩) (Nat.lt_of_lt_of_le hbb hB)).symm).trans hc)
        have HO1 := Lib.hid hown7
        have HB1 := Lib.hid hb6
        have ha1 : ([] : By).length ≤ 1000 * j := by simp
        clear hown2 hown6 hown7 hg6 hbA hb6 hc
        generalize ([] : By) = a1 at HO1 HT ha1
        have hsm2 := hsml
        have hfew2 : out.length + 1 ≤ j + 1 := by omega
        obtain ⟨g, cp, rfl, hg, hgl, hcell, hfr, hset⟩ := row_set HO1.out out.length (by simp)
        rw [List.getElem_append_right (Nat.le_refl _)] at hcell
        simp only [Nat.sub_self, List.getElem_cons_zero] at hcell
        have HSET := Lib.hid (fun (W : World) (b : By) (h : W.heap[g]? = w6.heap[g]?) => (by
          have h2 := hset W b h
          rw [set_last, show (out ++ [a1]).length = out.length + 1 by simp] at h2; exact h2 : (W.setCell ⟨g, out.length, none⟩ (.string ⟨b.toArray⟩)).ownsRow w.heap.size 9 1 (.slice (some ⟨g, 0, none⟩) (out.length + 1) cp) (out ++ [b]).length ((out ++ [b]).map sv)))
        clear hset
        rw [show (out ++ [a1]).length = out.length + 1 by simp]
        have n1 : ¬ 9223372036854775807 < a1.length + r.length := by omega
        have hHO := HO1
        clear HO1
        go_wp2_with fail
        go_region
        have hrw := own_below (HSET.out w6 (a1 ++ r) rfl) below_drew1
        have hB0 := HB1.out.setCell (p := ⟨g, out.length, none⟩) hg (.string ⟨(a1 ++ r).toArray⟩)
        have HZ := Lib.hid (show FbSt w most l V _ (j + 1) (out ++ [a1 ++ r]) _ from ⟨hB0.trans (below_drew1.mono hB0.size), hrw, HT.out, fun _ => by simp, fun x hx => by
          rcases List.mem_append.1 hx with hx | hx
          · have := hsm2 x hx; omega
          · rw [List.mem_singleton.1 hx, List.length_append]; omega, by rw [List.length_append]; exact hfew2⟩)
        clear hrw hB0
        go_wp2_with fail
        go_roundw
        case rel => exact ⟨j + 1, _, by omega, by go_num, HZ.out, HA2.out⟩
        case measure => simp [intOf]; omega
      · have hz2 : ((k : Int) == 0) = false := by simp; omega
        have hjm : ¬ j % most = 0 := by omega
        have hj0 : 0 < j := by
          rcases Nat.eq_zero_or_pos j with e | e
          · rw [e, Nat.zero_mod] at hjm; exact absurd rfl hjm
          · exact e
        obtain ⟨o1, a1, rfl⟩ : ∃ o1 a1, out = o1 ++ [a1] := ⟨_, _, (List.dropLast_concat_getLast (hne hj0)).symm⟩
        rw [stepB_old _ _ _ _ _ hjm] at htot
        have HT := Lib.hid htot
        have ha1 : a1.length ≤ 1000 * j := hsml a1 (by simp)
        have hsm2 : ∀ x ∈ o1, x.length ≤ 1000 * j := fun x hx => hsml x (by simp [hx])
        have hfew2 : o1.length + 1 ≤ j + 1 := by simp at hfew; omega
        have HO1 := HO
        have HB1 := HB
        have hcw := hc
        clear htot hk0 hsml hjm hc
        obtain ⟨g, cp, rfl, hg, hgl, hcell, hfr, hset⟩ := row_set HO1.out o1.length (by simp)
        rw [List.getElem_append_right (Nat.le_refl _)] at hcell
        simp only [Nat.sub_self, List.getElem_cons_zero] at hcell
        have HSET := Lib.hid (fun (W : World) (b : By) (h : W.heap[g]? = wr.heap[g]?) => (by
          have h2 := hset W b h
          rw [set_last, show (o1 ++ [a1]).length = o1.length + 1 by simp] at h2; exact h2 : (W.setCell ⟨g, o1.length, none⟩ (.string ⟨b.toArray⟩)).ownsRow w.heap.size 9 1 (.slice (some ⟨g, 0, none⟩) (o1.length + 1) cp) (o1 ++ [b]).length ((o1 ++ [b]).map sv)))
        clear hset
        rw [show (o1 ++ [a1]).length = o1.length + 1 by simp]
        have n1 : ¬ 9223372036854775807 < a1.length + r.length := by omega
        have hHO := HO1
        clear HO1
        go_wp2_with fail
        go_region
        have hrw := own_below (HSET.out wr (a1 ++ r) rfl) below_drew1
        have hB0 := HB1.out.setCell (p := ⟨g, o1.length, none⟩) hg (.string ⟨(a1 ++ r).toArray⟩)
        have HZ := Lib.hid (show FbSt w most l V _ (j + 1) (o1 ++ [a1 ++ r]) _ from ⟨hB0.trans (below_drew1.mono hB0.size), hrw, HT.out, fun _ => by simp, fun x hx => by
          rcases List.mem_append.1 hx with hx | hx
          · have := hsm2 x hx; omega
          · rw [List.mem_singleton.1 hx, List.length_append]; omega, by rw [List.length_append]; exact hfew2⟩)
        clear hrw hB0
        go_wp2_with fail
        go_roundw
        case rel => exact ⟨j + 1, _, by omega, by go_num, HZ.out, HA2.out⟩
        case measure => simp [intOf]; omega
    · have htot := hS.tot
      rw [List.drop_eq_nil_of_le (by omega), List.foldl_nil] at htot
      have hV : V = out := htot
      have HT := Lib.hid hV
      clear hS htot hV
      go_wp2_with fail
      go_ret2
      rw [HT.out]
      exact ⟨fun _ => ⟨_, rfl, HO.out⟩, fun h => (by rw [HA.out.done (by omega)] at h; cases h), HB.out⟩

end Go.Proofs.YthkpcalopmddpaaDoor

/-
  Walk: the normal form of a set that is given by its tracks, by the reference. Condition: at most 128 tracks.
-/
import Derived.Test.YtcidbmldbikknaaGreatDoorRf
namespace Go.Proofs.YtcidbmldbikknaaGreatDoor
open Go.RowKit Go.Sort
attribute [local go_sem ↓] loadRn_down storeRn_down

theorem infoRn : (Tryz.prog.info? 68).map (fun i => (i.zero, i.size, i.bytes)) = some (some (.agg #[.int .i64 0, .int .i64 0]), 2, 16) := by kernel_rfl
/-- Truth values in cells below a block. -/
structure BoolsAt (w : World) (B : Nat) (a : Option Addr) (l : List Bool) : Prop where
  cells : l ≠ [] → ∃ b, a = some ⟨b, 0, none⟩ ∧ b < B ∧ ∀ i (h : i < l.length), w.cell? ⟨b, i, none⟩ = some (.bool l[i])
theorem BoolsAt.get {w : World} {B : Nat} {a : Option Addr} {l : List Bool} (h : BoolsAt w B a l) {i : Nat} (hi : i < l.length) : ∃ b, a = some ⟨b, 0, none⟩ ∧ b < B ∧ ∀ i (h : i < l.length), w.cell? ⟨b, i, none⟩ = some (.bool l[i]) :=
  h.cells (fun e => by rw [e] at hi; simp at hi)
theorem bools_of_row {w : World} {base : Nat} {e : TypeId} {v : Value} {l : List Bool} (h : w.ownsRow base e 1 v l.length (l.map Value.bool)) : ∃ a cap, v = .slice a l.length cap ∧ BoolsAt w w.heap.size a l := by
  rcases h.2 with ⟨rfl, hn⟩ | ⟨g, cap, cur, rfl, hbase, hblk, q1, q2, q3, q4⟩
  · have : l = [] := List.length_eq_zero_iff.1 (by simpa using hn)
    subst this; exact ⟨none, 0, rfl, ⟨fun h => absurd rfl h⟩⟩
  · refine ⟨_, cap, rfl, ⟨fun _ => ⟨g, rfl, lt_of_block hblk, fun i hi => ?_⟩⟩⟩
    rw [cell_of_row w g i cur e (0, 0) hblk]
    have hi2 : (l.map Value.bool)[i]? = some (.bool l[i]) := by simp [hi]
    rw [← q4, List.getElem?_take, if_pos (by omega)] at hi2
    simpa using hi2
/-- The last run gets one track more. -/
def bumpL : List Rn → List Rn
  | [] => []
  | [(f, c)] => [(f, c + 1)]
  | x :: y :: l => x :: bumpL (y :: l)
theorem bump_concat : ∀ (l : List Rn) (f c : Int), bumpL (l ++ [(f, c)]) = l ++ [(f, c + 1)]
  | [], _, _ => rfl
  | [x], f, c => rfl
  | x :: y :: l, f, c => by
    have := bump_concat (y :: l) f c
    show x :: bumpL (y :: (l ++ [(f, c)])) = _
    rw [show y :: (l ++ [(f, c)]) = (y :: l) ++ [(f, c)] from rfl, this]; rfl
/-- The normal form: what is left of the truth values, the next track, whether the last one is in, the runs so far. -/
def setR : List Bool → Nat → Bool → List Rn → List Rn
  | [], _, _, out => out
  | b :: l, i, prev, out => setR l (i + 1) b (if b = true then (if prev = true then bumpL out else out ++ [((i : Int), 1)]) else out)
def setP (l : List Bool) : List Rn := setR l 0 false []
def prevB (l : List Bool) : Nat → Bool
  | 0 => false
  | j + 1 => l.getD j false

set_option maxRecDepth 100000 in
set_option maxHeartbeats 4000000 in
theorem set_any (w : World) (B : Nat) (a : Option Addr) (cap : Nat) (l : List Bool) (h : BoolsAt w B a l) (hB : B ≤ w.heap.size) (hl : l.length ≤ 128) :
    Calls Tryz.prog 133 #[.slice a l.length cap] w fun e w' => ∃ v, e = .returned v ∧ w'.ownsRow w.heap.size 68 2 v (setP l).length (refsF (setP l)) ∧ Below w.heap.size w w' := by
  obtain ⟨i0, hi0, hz0, hz1, hz2⟩ := info_parts infoRn
  have hT0 : setP l = setR (l.drop 0) 0 (prevB l 0) [] := rfl
  generalize setP l = T at hT0 ⊢
  have HT0 := Lib.hid hT0
  have HR := Lib.hid h
  have HO0 := Lib.hid (show (w.alloc (.cells #[] 68)).ownsRow w.heap.size 68 2 (.slice (some ⟨w.heap.size, 0, none⟩) 0 0) 0 [] from World.ownsRow_lit w #[] 0 (Nat.le_refl _) (by simp [maxLen]) rfl)
  have HB0 := Lib.hid (box_below w #[] 68)
  clear hT0 h
  go_enter Tryz.func133, Tryz.ntmps133
  go_wp2_with fail
  go_loopw [3, 4] (fun v k wr => ∃ (j : Nat) (out : List Rn), j ≤ l.length ∧ k = .int .i64 j ∧ T = setR (l.drop j) j (prevB l j) out ∧ out.length ≤ j ∧ (prevB l j = true → ∃ (i : List Rn) (f c : Int), out = i ++ [(f, c)] ∧ 0 ≤ c ∧ c ≤ j) ∧ Below w.heap.size w wr ∧ wr.ownsRow w.heap.size 68 2 v out.length (refsF out)) (fun _ k _ => l.length - (intOf k).toNat)
  case atStart => exact ⟨0, [], by omega, rfl, HT0.out, by simp, (fun h => by cases h), HB0.out, HO0.out⟩
  case round =>
    clear HT0 HB0 HO0
    obtain ⟨j, out, hj, rfl, hT, hol, hpv, hb, ho⟩ := hrel
    have HB := Lib.hid hb
    have HO := Lib.hid ho
    obtain ⟨oa, oc, rfl⟩ := row_slice ho
    by_cases hlt : j < l.length
    · obtain ⟨b, rfl, hbb, hc⟩ := HR.out.get hlt
      have xj := (hb.cell (p := ⟨b, j, none⟩) (Nat.lt_of_lt_of_le hbb hB)).trans (hc j hlt)
      have hprev : ∀ k, j = k + 1 → wr.cell? ⟨b, k, none⟩ = some (.bool (prevB l j)) := by
        intro k hk
        subst hk
        rw [hb.cell (p := ⟨b, k, none⟩) (Nat.lt_of_lt_of_le hbb hB), hc k (by omega)]
        simp only [prevB]
        rw [List.getD_eq_getElem?_getD, List.getElem?_eq_getElem (by omega)]; rfl
      have hp0 : j = 0 → prevB l j = false := by intro h0; subst h0; rfl
      have hpn : prevB l (j + 1) = l[j] := by
        simp only [prevB]; rw [List.getD_eq_getElem?_getD, List.getElem?_eq_getElem hlt]; rfl
      rw [List.drop_eq_getElem_cons hlt, setR] at hT
      rw [← hpn] at hT xj
      have HPN := Lib.hid hpn
      have HPV := Lib.hid hpv
      have HT := Lib.hid hT
      have HPR := Lib.hid hprev
      have HP0 := Lib.hid hp0
      clear hb ho hc hT hpv hprev hp0 hpn
      generalize hx : prevB l (j + 1) = x at xj HT HPN
      have HX := Lib.hid hx
      clear hx
      cases x with
      | false =>
        have HN := Lib.hid (show T = setR (l.drop (j + 1)) (j + 1) (prevB l (j + 1)) out by rw [HT.out, HX.out, if_neg (by simp)])
        have HNP := Lib.hid (show prevB l (j + 1) = true → ∃ (i : List Rn) (f c : Int), out = i ++ [(f, c)] ∧ 0 ≤ c ∧ c ≤ ((j + 1 : Nat) : Int) by rw [HX.out]; intro h; cases h)
        go_wp2_with fail
        go_roundw
        case rel => exact ⟨j + 1, out, by omega, by go_num, HN.out, by omega, HNP.out, HB.out, HO.out⟩
        case measure => simp [intOf]; omega
      | true =>
        by_cases hp : prevB l j = true
        · obtain ⟨k, hk⟩ : ∃ k, j = k + 1 := by
            rcases Nat.eq_zero_or_pos j with h0 | h0
            · rw [HP0.out h0] at hp; cases hp
            · exact ⟨j - 1, by omega⟩
          have xk := HPR.out k hk
          obtain ⟨ii, f, c, hout, hc0, hc1⟩ := HPV.out hp
          rw [hp] at xk
          have HN := Lib.hid (show T = setR (l.drop (j + 1)) (j + 1) (prevB l (j + 1)) (ii ++ [(f, c + 1)]) by rw [HT.out, HX.out, if_pos rfl, if_pos hp, hout, bump_concat])
          have hlen : out.length = ii.length + 1 := by rw [hout]; simp
          have ho2 := HO.out
          rw [hlen] at ho2
          have hfl : refsF out = refsF ii ++ [.int .i64 f, .int .i64 c] := by rw [hout, refsF_append]; rfl
          rw [hfl] at ho2
          have hr2 := refsF_len ii
          obtain ⟨g, cap2, hfm⟩ := ho2.form (by omega)
          obtain ⟨⟨rfl, rfl⟩, _⟩ : (oa = some ⟨g, 0, none⟩ ∧ oc = cap2) ∧ w.heap.size ≤ g ∧ g < wr.heap.size := by simpa using hfm
          have cc := ho2.cellAt (ii.length * 2 + 1) (by omega)
          have fz := ho2.frozenAt (ii.length * 2 + 1)
          rw [List.getElem?_append_right (by omega), show ii.length * 2 + 1 - (refsF ii).length = 1 by omega] at cc
          simp only [List.getElem?_cons_succ, List.getElem?_cons_zero] at cc
          have hst := ho2.stored (ii.length * 2 + 1) (.int .i64 (c + 1))
          rw [List.set_append_right _ _ (by omega), show ii.length * 2 + 1 - (refsF ii).length = 1 by omega] at hst
          have hbg : w.heap.size ≤ g := row_own ho2 rfl
          have HBS := Lib.hid (HB.out.setCell (p := ⟨g, ii.length * 2 + 1, none⟩) hbg (.int .i64 (c + 1)))
          have HOS := Lib.hid (show (wr.setCell ⟨g, ii.length * 2 + 1, none⟩ (.int .i64 (c + 1))).ownsRow w.heap.size 68 2 (.slice (some ⟨g, 0, none⟩) (ii.length + 1) oc) (ii ++ [(f, c + 1)]).length (refsF (ii ++ [(f, c + 1)])) by
            rw [refsF_append, List.length_append]; exact hst.1)
          have HNP := Lib.hid (show prevB l (j + 1) = true → ∃ (i : List Rn) (f' c' : Int), (ii ++ [(f, c + 1)]) = i ++ [(f', c')] ∧ 0 ≤ c' ∧ c' ≤ ((j + 1 : Nat) : Int) from fun _ => ⟨ii, f, c + 1, rfl, by omega, by omega⟩)
          have hol2 : (ii ++ [(f, c + 1)]).length ≤ j + 1 := by simp; omega
          rw [hlen]
          have hii : ii.length ≤ 128 := by omega
          subst hk
          clear hfm ho2 hst hp hout hlen hfl hr2 HPR HPV HP0 HT
          go_wp2_with fail
          go_roundw
          case rel => exact ⟨k + 1 + 1, ii ++ [(f, c + 1)], by omega, by go_num, HN.out, hol2, HNP.out, HBS.out, HOS.out⟩
          case measure => simp [intOf]; omega
        · have hpf : prevB l j = false := by simpa using hp
          have HN := Lib.hid (show T = setR (l.drop (j + 1)) (j + 1) (prevB l (j + 1)) (out ++ [((j : Int), 1)]) by rw [HT.out, HX.out, if_pos rfl, if_neg hp])
          have HNP := Lib.hid (show prevB l (j + 1) = true → ∃ (i : List Rn) (f' c' : Int), (out ++ [((j : Int), (1 : Int))]) = i ++ [(f', c')] ∧ 0 ≤ c' ∧ c' ≤ ((j + 1 : Nat) : Int) from fun _ => ⟨out, j, 1, rfl, by omega, by omega⟩)
          have hlow := HO.out
          have hj128 : j ≤ 128 := by omega
          rcases Nat.eq_zero_or_pos j with h0 | h0
          · subst h0
            clear hp hpf HPR HPV HP0 HT
            go_wp2_with (refine wpList_append_own _ rfl _ _ 41 rfl w.heap.size 68 i0 (.agg #[.int .i64 0, .int .i64 0]) 2 16 Tryz.underlying41 hi0 hz0 hz1 hz2 rfl (by decide) _ _ _ rfl (hlow.alloc _) _ 1 1 [.int .i64 0, .int .i64 1] rfl rfl ?b1 ?b2 ?b3 ?b4 ?b5 ?_)
            try (case b1 => exact news_at (cs := #[.int .i64 0, .int .i64 1]) (heap_alloc_new _ _))
            try (case b2 => simp [Value.oneCell'])
            try (case b3 => unfold maxLen; omega)
            try (case b4 => omega)
            try (case b5 => have := HB.out.size; simp; omega)
            intro v6 w6 ho6 hg6 _
            have HB6 := Lib.hid ((HB.out.alloc HB.out.size (.cells #[.int .i64 0, .int .i64 1] 68)).grown hg6 (HB.out.alloc HB.out.size _).size (fun k hk => row_own hlow hk))
            have HO6 := Lib.hid (show w6.ownsRow w.heap.size 68 2 v6 (out ++ [(((0 : Nat) : Int), (1 : Int))]).length (refsF (out ++ [(((0 : Nat) : Int), (1 : Int))])) by rw [List.length_append, refsF_append]; exact ho6)
            clear ho6 hg6 hlow
            go_wp2_with fail
            go_roundw
            case rel => exact ⟨0 + 1, out ++ [(((0 : Nat) : Int), 1)], by omega, by go_num, HN.out, by rw [List.length_append]; exact Nat.add_le_add_right hol _, HNP.out, HB6.out, HO6.out⟩
            case measure => simp [intOf]; omega
          · obtain ⟨k, hk⟩ : ∃ k, j = k + 1 := ⟨j - 1, by omega⟩
            have xk := HPR.out k hk
            rw [hpf] at xk
            have hkI : (0 : Int) < (j : Int) := by omega
            have HK := Lib.hid hk
            have hks : (j : Int) - 1 = (k : Int) := by omega
            clear hp hpf HPR HPV HP0 HT hk
            go_wp2_with (refine wpList_append_own _ rfl _ _ 41 rfl w.heap.size 68 i0 (.agg #[.int .i64 0, .int .i64 0]) 2 16 Tryz.underlying41 hi0 hz0 hz1 hz2 rfl (by decide) _ _ _ rfl (hlow.alloc _) _ 1 1 [.int .i64 j, .int .i64 1] rfl rfl ?b1 ?b2 ?b3 ?b4 ?b5 ?_)
            try (case b1 => exact news_at (cs := #[.int .i64 j, .int .i64 1]) (heap_alloc_new _ _))
            try (case b2 => simp [Value.oneCell'])
            try (case b3 => unfold maxLen; omega)
            try (case b4 => omega)
            try (case b5 => have := HB.out.size; simp; omega)
            intro v6 w6 ho6 hg6 _
            have HB6 := Lib.hid ((HB.out.alloc HB.out.size (.cells #[.int .i64 j, .int .i64 1] 68)).grown hg6 (HB.out.alloc HB.out.size _).size (fun k hk => row_own hlow hk))
            have HO6 := Lib.hid (show w6.ownsRow w.heap.size 68 2 v6 (out ++ [((j : Int), (1 : Int))]).length (refsF (out ++ [((j : Int), (1 : Int))])) by rw [List.length_append, refsF_append]; exact ho6)
            clear ho6 hg6 hlow
            go_wp2_with fail
            go_roundw
            case rel => exact ⟨j + 1, out ++ [((j : Int), 1)], by omega, by go_num, HN.out, by rw [List.length_append]; exact Nat.add_le_add_right hol _, HNP.out, HB6.out, HO6.out⟩
            case measure => simp [intOf]; omega
    · have HQ := Lib.hid (show T = out by rw [hT, List.drop_eq_nil_of_le (by omega)]; rfl)
      clear hT hb ho hpv
      go_wp2_with fail
      go_ret
      rw [HQ.out]
      exact ⟨_, rfl, HO.out, HB.out⟩

end Go.Proofs.YtcidbmldbikknaaGreatDoor

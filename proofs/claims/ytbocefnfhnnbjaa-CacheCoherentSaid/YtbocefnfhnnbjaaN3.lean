/-
  The pool of pages: the walk of slices.DeleteFunc, asked by the closure that strikes places from the map. No condition.
-/
import Derived.Test.YtbocefnfhnnbjaaN2
namespace Go.Proofs.Ytbocefnfhnnbjaa
open Go.RowKit Go.Sort
attribute [local go_sem ↓] loadPl_down storePl_down

theorem there_row {w : World} {base g cap n : Nat} {xs : List Value} (h : w.ownsRow base 104 2 (.slice (some ⟨g, 0, none⟩) n cap) n xs) (j : Nat) (hj : j < n * 2) : (w.cell? ⟨g, j, none⟩).isSome = true ∧ w.frozen? ⟨g, j, none⟩ = false := by
  refine ⟨?_, World.ownsRow.frozenAt h j⟩
  rw [World.ownsRow.cellAt h j hj, List.getElem?_eq_getElem (by rw [h.1]; exact hj)]
  rfl

set_option maxRecDepth 100000 in
set_option maxHeartbeats 8000000 in
theorem delfunc_any (w : World) (base : Nat) (oa : Option Addr) (oc : Nat) (ob : Nat) (O : List Pl) (wb xb pb mb g : Nat) (capt : Array Value) (acc : Pl → Bool) (M : List (Pl × Ct))
    (ho : Ord w base oa oc O) (hl : O.length ≤ 100000) (hok : ∀ x ∈ O, okP x) (he : DelEnv [mb, ob] w wb xb pb mb g capt acc) (hm : amap w mb kPlace vCt okP M) (hn : ∀ q, oa = some q → q.block = ob) (hne : ob ≠ mb) :
    Calls Try.prog 60 #[.slice oa O.length oc, .func (.func 61) #[] #[.pointer (some ⟨wb, 0, none⟩), .pointer (some ⟨xb, 0, none⟩)]] w fun e w' => ∃ M', e = .returned (.slice oa (O.filter (fun x => !acc x)).length oc) ∧ Ord w' base oa oc (O.filter (fun x => !acc x)) ∧ amap w' mb kPlace vCt okP M' ∧ Struck acc O M M' ∧ Only [mb, ob] w w' := by
  have HI := Lib.hid (idx_any [mb, ob] w base oa oc O wb xb pb mb g capt acc M ho hl hok he hm (fun q hq => by rw [hn q hq]; exact hne))
  have hsp := idxF_spec acc O 0
  have HE := Lib.hid he
  have HO := Lib.hid ho
  have HOK := Lib.hid hok
  cases hk : idxF acc O 0 with
  | none =>
    rw [hk] at HI hsp
    have HF := Lib.hid (show O.filter (fun x => !acc x) = O from List.filter_eq_self.2 (fun x hx => by rw [hsp x hx]; rfl))
    have HS := Lib.hid (Struck.nil (M := M) hsp)
    clear ho he hm hok hk
    go_enter Try.func60, Try.ntmps60
    go_wp2_with fail
    refine HI.out.mono ?_
    rintro e w1 ⟨rfl, hm1, ho1⟩
    have HM1 := Lib.hid (show amap w1 mb kPlace vCt okP M from hm1)
    have HO1 := Lib.hid (pl_only HO.out ho1 (fun k hk => by
      obtain ⟨q, hq⟩ : ∃ q, oa = some q := by cases oa with
        | none => simp [Value.ownBlock] at hk
        | some q => exact ⟨q, rfl⟩
      subst hq
      have : q.block = k := by simpa [Value.ownBlock] using hk
      have := hn q rfl
      simp; omega))
    have HON := Lib.hid (show Only [mb, ob] w w1 from ho1.mono (fun k hk _ => by obtain rfl := List.mem_singleton.1 hk; simp))
    clear hm1 ho1
    simp only [idxV]
    go_wp2_with fail
    go_ret
    rw [HF.out]
    exact ⟨M, rfl, HO1.out, HM1.out, HS.out, HON.out⟩
  | some k =>
    rw [hk] at HI hsp
    obtain ⟨k', hkk, hkl, hka, hkb⟩ := hsp
    obtain rfl : k = k' := by omega
    clear hkk
    obtain ⟨gq, hoq, hbg, hgl⟩ := ho.form (by intro e; rw [e] at hkl; simp at hkl)
    subst hoq
    obtain rfl : gq = ob := hn _ rfl
    have htk := tk_snoc O k hkl
    have hf0 : (O.take k).filter (fun x => !acc x) = O.take k := List.filter_eq_self.2 (fun x hx => by rw [hkb x hx]; rfl)
    have hst0 : DelSt acc O M k (k + 1) O (adel M O[k]) := by
      refine ⟨rfl, by omega, hkl, ?_, ?_, rfl, ?_⟩
      · rw [htk, List.filter_append, hf0]; simp [hka]
      · rw [htk, List.filter_append, hf0]; simp [hka]; try omega
      · have := (Struck.nil (M := M) hkb).step O[k]
        rw [if_pos hka, ← htk] at this
        exact this
    have HST0 := Lib.hid hst0
    have HD := Lib.hid (show delI M O (some k) = adel M O[k] by simp [delI, hkl])
    have hcap : O.length ≤ oc := by
      rcases ho.2 with ⟨hv, _⟩ | ⟨g', cap', cur, hv, _, _, q1, _⟩
      · cases hv
      · injection hv with _ _ e3
        rw [e3]; exact q1
    have hcm : oc ≤ maxLen := by
      rcases ho.2 with ⟨hv, _⟩ | ⟨g', cap', cur, hv, _, _, _, q2, _⟩
      · cases hv
      · injection hv with _ _ e3
        rw [e3]; exact q2
    have hk1 : ((k : Int) == -1) = false := by first | (simp; done) | (simp; omega)
    clear ho he hm hok hk hst0 htk hf0
    go_enter Try.func60, Try.ntmps60
    go_wp2_with fail
    refine HI.out.mono ?_
    rintro e w1 ⟨rfl, hm1, ho1⟩
    rw [HD.out] at hm1
    have HM1 := Lib.hid hm1
    have HO1 := Lib.hid (pl_only HO.out ho1 (fun k hk => by
      have : gq = k := by simpa [Value.ownBlock] using hk
      subst this
      simpa using hne))
    have HON := Lib.hid (show Only [mb, gq] w w1 from ho1.mono (fun k hk _ => by obtain rfl := List.mem_singleton.1 hk; simp))
    clear hm1 ho1
    simp only [idxV]
    go_wp2_with fail
    go_loopw [5, 6] (fun a b wr => ∃ (i j : Nat) (cur : List Pl) (M' : List (Pl × Ct)), a = .int .i64 i ∧ b = .int .i64 j ∧ DelSt acc O M i j cur M' ∧ Ord wr base (some ⟨gq, 0, none⟩) oc cur ∧ amap wr mb kPlace vCt okP M' ∧ Only [mb, gq] w wr) (fun _ b _ => O.length - (intOf b).toNat)
    case atStart => exact ⟨k, k + 1, O, _, rfl, by go_num, HST0.out, HO1.out, HM1.out, HON.out⟩
    case round =>
      clear HST0 HO1 HM1 HON
      obtain ⟨i, j, cur, M', rfl, rfl, hst, hor, hmr, hon⟩ := hrel
      have HS := Lib.hid hst
      have HOR := Lib.hid hor
      have HMR := Lib.hid hmr
      have HN := Lib.hid hon
      by_cases hlt : j < O.length
      · have hltI : (j : Int) < (O.length : Int) := by omega
        have hij := hst.ij
        have hjc : j < cur.length := by rw [hst.len]; exact hlt
        have hic : i < cur.length := by rw [hst.len]; omega
        have hat := hst.at hlt
        obtain ⟨c0, c1⟩ := hor.cells hjc
        rw [hat] at c0 c1
        have HSK := Lib.hid (fun (e : acc O[j] = true) => hst.skip hlt e)
        have HKP := Lib.hid (fun (e : acc O[j] = false) => hst.keep hlt e)
        have hxo := HOK.out O[j] (List.getElem_mem hlt)
        have hlen := hst.len
        have HLN := Lib.hid hlen
        have dl0 := loadPl_mid c0 c1
        have hgw : gq < wr.heap.size := block_lt_of_cell c0
        have HGW := Lib.hid hgw
        clear hst hat
        generalize O[j] = x at HSK HKP hxo dl0 c0 c1
        obtain ⟨x1, x2⟩ := x
        simp only at dl0 c0 c1
        obtain ⟨W3, hW3⟩ : ∃ W3, W3 = (wr.alloc (.cells #[.int .i64 0, .int .i64 0] 104)).setRow wr.heap.size #[.int .i64 x1, .int .i64 x2] := ⟨_, rfl⟩
        have st1 := storePl_at (cs := #[.int .i64 x1, .int .i64 x2]) (heap_alloc_new wr (.cells #[.int .i64 0, .int .i64 0] 104)) rfl rfl (by simp [Value.oneCell'])
        have hg3 : W3.heap[wr.heap.size]? = some (.cells #[.int .i64 x1, .int .i64 x2] 104 (0, 0)) := by rw [hW3]; exact setRow_heap _ _ _ _ _ _ (heap_alloc_new _ _)
        have hb3 : Below wr.heap.size wr W3 := by rw [hW3]; exact below_setRow ((Below.refl _ _).alloc (Nat.le_refl _) _) (Nat.le_refl _) _
        have dl0' : (loadPl ⟨gq, j * 2, none⟩).run Try.prog (wr.alloc (.cells #[.int .i64 0, .int .i64 0] 104)) = .ok (.agg #[.int .i64 x1, .int .i64 x2]) (wr.alloc (.cells #[.int .i64 0, .int .i64 0] 104)) := by
          have hba : Below wr.heap.size wr (wr.alloc (.cells #[.int .i64 0, .int .i64 0] 104)) := (Below.refl _ _).alloc (Nat.le_refl _) _
          exact loadPl_mid ((hba.cell (p := ⟨gq, j * 2, none⟩) hgw).trans c0) ((hba.cell (p := ⟨gq, j * 2 + 1, none⟩) hgw).trans c1)
        rw [← hW3] at st1
        have dl3 := loadPl_at hg3 rfl
        have hon3 : Only [mb, gq] w W3 := hon.step_below hb3
        have hm3 := amap_keep hmr (hb3.block mb (amap_lt hmr))
        have hC := (HE.out.only hon3).call hm3 (x1, x2) hxo
        have HC := Lib.hid (show Calls Try.prog 61 #[.agg #[.int .i64 x1, .int .i64 x2], .pointer (some ⟨wb, 0, none⟩), .pointer (some ⟨xb, 0, none⟩)] W3 (fun e w' => e = .returned (.bool (acc (x1, x2))) ∧ amap w' mb kPlace vCt okP (if acc (x1, x2) = true then adel M' (x1, x2) else M') ∧ Only [mb] W3 w') from hC)
        have HB3 := Lib.hid hb3
        have HG3 := Lib.hid hg3
        have HN3 := Lib.hid hon3
        have hO3 := pl_below hor hb3
        have HO3 := Lib.hid hO3
        have HMLT := Lib.hid (amap_lt hmr)
        clear hor hmr hon hW3 hg3 hb3 hon3 hm3 hC hO3 c0 c1 hxo
        generalize acc (x1, x2) = q at HC HSK HKP
        go_wp2_with fail
        refine HC.out.mono ?_
        rintro e w4 ⟨rfl, hm4, ho4⟩
        have HN4 := Lib.hid (HN3.out.trans (ho4.mono (fun k hk _ => by obtain rfl := List.mem_singleton.1 hk; simp)))
        have hO4 := pl_only HO3.out ho4 (fun k hk => by
          have : gq = k := by simpa [Value.ownBlock] using hk
          subst this
          simpa using hne)
        cases q with
        | true =>
          have HMF := Lib.hid (show amap w4 mb kPlace vCt okP (adel M' (x1, x2)) from hm4)
          have HO4 := Lib.hid hO4
          have HST := Lib.hid (HSK.out (by first | rfl | trivial))
          clear hm4 ho4 hO4 dl0 dl0' dl3 st1
          go_wp2_with fail
          go_roundw
          case rel => exact ⟨i, j + 1, cur, _, rfl, by go_num, HST.out, HO4.out, HMF.out, HN4.out⟩
          case measure => simp [intOf]; omega
        | false =>
          have hm4' : amap w4 mb kPlace vCt okP M' := hm4
          have hg4 := (ho4.block wr.heap.size (lt_of_block HG3.out) (by have := HMLT.out; simp; omega)).trans HG3.out
          have dl4 := loadPl_at hg4 rfl
          have HST := Lib.hid (HKP.out (by first | rfl | trivial))
          have hO5 := Ord.set hO4 i (x1, x2)
          obtain ⟨W5, hW5⟩ : ∃ W5, W5 = (w4.setCell ⟨gq, i * 2, none⟩ (.int .i64 x1)).setCell ⟨gq, i * 2 + 1, none⟩ (.int .i64 x2) := ⟨_, rfl⟩
          have st5 : (storePl ⟨gq, i * 2, none⟩ (.agg #[.int .i64 x1, .int .i64 x2])).run Try.prog w4 = .ok () W5 := by
            rw [hW5]
            exact run_storeVar_mid (P := Try.prog) w4 gq (i * 2) 104 #[.int .i64 x1, .int .i64 x2] (fun k hk => by
              have hk : k < 2 := hk
              exact there_row hO4 (i * 2 + k) (by omega)) (by rw [info104]; rfl) (by simp [Value.oneCell'])
          have hN5 : Only [mb, gq] w4 W5 := by rw [hW5]; exact ((Only.refl _ w4).setCell (Or.inl (by simp)) _).setCell (Or.inl (by simp)) _
          have hm5 : amap W5 mb kPlace vCt okP M' := amap_keep hm4' (by
            rw [hW5]
            rw [Below.heap_setCell _ _ _ _ (by simpa using hne.symm), Below.heap_setCell _ _ _ _ (by simpa using hne.symm)])
          rw [← hW5] at hO5
          have HO5 := Lib.hid hO5
          have HM5 := Lib.hid hm5
          have HN5 := Lib.hid (HN4.out.trans hN5)
          have hi0 : (0 : Int) ≤ (i : Int) := by omega
          have hiI : (i : Int) < (O.length : Int) := by omega
          clear hm4 hm4' ho4 hO4 hg4 hO5 hW5 hN5 hm5 dl0 dl0' dl3 st1
          go_wp2_with fail
          go_roundw
          case rel => exact ⟨i + 1, j + 1, cur.set i (x1, x2), M', by go_num, by go_num, HST.out, HO5.out, HM5.out, HN5.out⟩
          case measure => simp [intOf]; omega
      · have hjl : j = O.length := by have := hst.jn; omega
        have hltI : ¬ (j : Int) < (O.length : Int) := by omega
        have hij := hst.ij
        have hlen := hst.len
        have hkept := hst.kept
        have hkl2 := hst.keptl
        rw [hjl, List.take_length] at hkept hkl2
        have hmap := hst.map
        rw [hjl, List.take_length] at hmap
        obtain ⟨zl, hcl⟩ : ∃ zl, (Builtin.clear_ #[91] 0 #[.slice (some ⟨gq, i * 2, none⟩) (O.length - i) (oc - i)]).run Try.prog wr = .ok (.tuple #[]) (wr.setCells gq (i * 2) zl) :=
          run_clear_pl wr 0 gq (i * 2) (O.length - i) (oc - i) (by omega) (fun k hk => (there_row hor (i * 2 + k) (by omega)).1) (fun k hk => (there_row hor (i * 2 + k) (by omega)).2)
        go_wp2_with fail
        go_ret
        obtain ⟨ys, hy1, hy2⟩ := own_setCells zl (i * 2) wr _ hor
        have hO6 : Ord (wr.setCells gq (i * 2) zl) base (some ⟨gq, 0, none⟩) oc (O.filter (fun x => !acc x)) := by
          have h1 := own_cut hy1 (i := i) (by omega)
          rw [hy2 _ (Nat.le_refl _), plF_take, hkept] at h1
          unfold Ord
          rw [hkl2]
          exact h1
        have hm6 : amap (wr.setCells gq (i * 2) zl) mb kPlace vCt okP M' := amap_keep hmr ((only_setCells gq zl (i * 2) wr).block mb (amap_lt hmr) (by simpa using hne.symm))
        refine ⟨by first | rfl | rw [hkl2], hO6, M', hm6, hmap, hon.trans ((only_setCells gq zl (i * 2) wr).mono (fun k hk _ => by obtain rfl := List.mem_singleton.1 hk; simp))⟩

end Go.Proofs.Ytbocefnfhnnbjaa

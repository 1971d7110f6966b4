/-
  Walks: Append. Condition: the log and its copies lie in memory, and have the sectors.
-/
import Derived.Test.YtjpkdhnponcciaaGreatDoorCM
import Derived.Test.YtjpkdhnponcciaaGreatDoorCL
import Derived.Test.YtjpkdhnponcciaaGreatDoorCN
namespace Go.Proofs.YtjpkdhnponcciaaGreatDoor
open Go.RowKit Go.Sort

theorem NoOut.normal {Q : Exit → Act → World → Prop} {a : Act} {w : World} (h : Q .normal a w) : NoOut Q .normal a w := h
theorem more_hw {h : Hw} (ok : HwOk h) (r : Rc) (hs : r.sound = true) (hn : r.num = (h.next : Int)) (hf : cntW r.b.length ≤ h.free) : HwOk (h.more r) := by
  obtain ⟨h1, h2, h3⟩ := Rc.sound_num hs
  have hl : r.last = r.num + r.l.length - 1 := rfl
  have hu := ok.used
  refine ⟨ok.n, ok.first, ?_, ok.at', ?_⟩
  · show r.last.toNat + 1 ≤ _
    omega
  · show h.used + cntW r.b.length ≤ h.n - 1
    unfold Hw.free at hf; omega
theorem ap_num {n m XN : Nat} (h1 : n ≤ 1099511627777) (h2 : m ≤ 1000) (h3 : (XN : Int) = (n : Int) + m) : (n : Int) + (m : Int) - 1 + 1 = (XN : Int) ∧ IntKind.i64.wrap (XN : Int) = (XN : Int) ∧ wrap64 ((n : Int) + (m : Int)) = (XN : Int) ∧
    IntKind.i64.wrap ((n : Int) + (m : Int)) = (XN : Int) ∧ IntKind.i64.wrap ((n : Int) + (m : Int) - 1 + 1) = (XN : Int) := by
  have e : (n : Int) + (m : Int) - 1 + 1 = (XN : Int) := by omega
  have w : IntKind.i64.wrap (XN : Int) = (XN : Int) := IntWalk.i64_in _ (by omega)
  exact ⟨e, w, by rw [IntWalk.wrap64_in _ (by omega)]; omega, by rw [← h3]; exact w, by rw [e]; exact w⟩
theorem ap_used {u N : Nat} (h1 : u ≤ 1000000) (h2 : N ≤ 1000000) : IntKind.i64.wrap ((u : Int) + (N : Int)) = ((u + N : Nat) : Int) := by
  rw [IntWalk.i64_in _ (by omega)]; omega
theorem ap_le {h : Hw} (ok : HwOk h) {N : Nat} (hf : N ≤ h.free) : h.used ≤ 1000000 ∧ N ≤ 1000000 := by
  have h1 := ok.used
  have h2 := ok.n
  unfold Hw.free at hf
  omega
theorem listW_take (h : Hw) (number : Nat) (s : By) (k : Nat) (hk : k < cntW s.length) : (listW h number s).take (k + 1) = (listW h number s).take k ++ [(h.place h.at' (h.used + k), pieceS number k s)] := by
  have hl : k < (listW h number s).length := by simpa [listW] using hk
  rw [List.take_succ_eq_append_getElem hl]
  simp [listW]
theorem listW_len (h : Hw) (number : Nat) (s : By) : (listW h number s).length = cntW s.length := by simp [listW]
/-- Where Append's loop over the pieces stands. -/
structure ApI (w0 : World) (F : List Nat) (lb : Nat) (ka kb : Bk) (A B : Cp) (c0 r0 l0 base : Nat) (h : Hw) (lr : Array Value) (number : Nat) (s : By) (k : Nat) (W : World) : Prop where
  lg : LgAt W lb ka kb A B
  hd : W.heap[c0]? = some (.cells h.cs 105 (0, 0))
  lr : W.heap[r0]? = some (.cells lr 50 (0, 0))
  row : ∃ v, W.heap[l0]? = some (.cells #[v] 139 (0, 0)) ∧ WtRow W base v ((listW h number s).take k)
  only : Only F w0 W
theorem ApI.keep {w0 : World} {F : List Nat} {lb : Nat} {ka kb : Bk} {A B : Cp} {c0 r0 l0 base : Nat} {h : Hw} {lr : Array Value} {number : Nat} {s : By} {k : Nat} {W W' : World} {S : List Nat} (i : ApI w0 F lb ka kb A B c0 r0 l0 base h lr number s k W) (ho : Only S W W')
    (h1 : ∀ x ∈ S, x ∉ ka.s ∧ x ∉ kb.s ∧ x ≠ lb ∧ x ≠ c0 ∧ x ≠ r0 ∧ x ≠ l0 ∧ w0.heap.size ≤ x ∧ (x < base)) : ApI w0 F lb ka kb A B c0 r0 l0 base h lr number s k W' := by
  obtain ⟨v, hv1, hv2⟩ := i.row
  have hn : ∀ {y : Nat}, (∀ x ∈ S, x ≠ y) → y ∉ S := fun h hm => h _ hm rfl
  refine ⟨⟨ho.heap i.lg.row (hn fun x hx => (h1 x hx).2.2.1), i.lg.a.only ho (fun x hx hm => (h1 x hm).1 hx), i.lg.b.only ho (fun x hx hm => (h1 x hm).2.1 hx), i.lg.dis, fun x hx => Nat.lt_of_lt_of_le (i.lg.lt x hx) ho.size, i.lg.lbn⟩,
    ho.heap i.hd (hn fun x hx => (h1 x hx).2.2.2.1), ho.heap i.lr (hn fun x hx => (h1 x hx).2.2.2.2.1), ⟨v, ho.heap hv1 (hn fun x hx => (h1 x hx).2.2.2.2.2.1), hv2.only ho (fun y hy hm => ?_)⟩, i.only.then ho (fun x hx => Or.inr (h1 x hx).2.2.2.2.2.2.1)⟩
  have := row_own hv2 hy
  have := (h1 y hm).2.2.2.2.2.2.2
  omega
section
attribute [local go_sem ↓] loadHd_down storeHd_down loadLr_down storeLr_down loadWt_down storeWt_down
attribute [local go_sem] Oper.semAt_some
attribute [local go_sem ↓] askedIn_wide
attribute [local simp ↓] askedIn_wide
set_option maxRecDepth 100000 in
set_option maxHeartbeats 16000000 in
theorem append_w (w : World) (lb : Nat) (ka kb : Bk) (A B : Cp) (unit : Int) (a : Option Addr) (cap _Bc : Nat) (l : List Ch) (hL : LgAt w lb ka kb A B) (H : BgH A B) (HF : (beginV A B).e = 0 → HdFit (beginV A B).h (beginV A B).a (beginV A B).b)
    (hC : ChsF w (fS ka kb A B) a l) (hll : l.length ≤ 1000000) (hc : ∀ c ∈ l, ChLen c) :
    Calls Tryz.prog 38 #[.pointer (some ⟨lb, 0, none⟩), .int .i64 unit, .slice a l.length cap] w fun e w' =>
      e = .returned (.tuple #[.int .i64 (appendV A B unit l).1.1, .int .i64 (appendV A B unit l).1.2]) ∧ LgAt w' lb ka kb (appendV A B unit l).2.1 (appendV A B unit l).2.2 ∧ Only (fS ka kb A B) w w' := by
  have HBg := Lib.hid (begin_w w lb ka kb A B hL H.ha H.hb H.hx H.hy)
  have HK := Lib.hid (@beginV_ok A B)
  have HFs := Lib.hid (fS_eq (ka := ka) (kb := kb) (beginV_none A B).1 (beginV_none A B).2)
  have HRV := Lib.hid (show appendV A B unit l = (let g := beginV A B
      if g.e ≠ 0 then ((0, g.e), g.a, g.b) else
      let r : Rc := ⟨g.h.next, unit, l⟩
      if r.sound = false then ((0, 1), g.a, g.b) else if 16384 < r.b.length then ((0, 8), g.a, g.b) else
      if g.h.free < cntW r.b.length then ((0, 14), g.a, g.b) else
      let q := addV g.a g.b g.h r
      ((if q.1 ≠ 0 then 0 else r.num, q.1), q.2)) from rfl)
  have HF := Lib.hid HF
  have HC := Lib.hid hC
  have HLL := Lib.hid hll
  have HCl := Lib.hid hc
  have HLw := Lib.hid hL
  clear hL H hC hll hc
  generalize appendV A B unit l = R at HRV ⊢
  generalize beginV A B = g at HBg HK HRV HF HFs
  obtain ⟨h, er, A', B'⟩ := g
  simp only at HBg HK HRV HF HFs
  refine (callsIn_wide (n := 0)).1 (callsIn_of_wp_marks Tryz.func38 rfl trivial ?_ rfl)
  refine (wpIn_wide (n := 0)).2 ?_
  simp only [Tryz.ntmps38, List.size_toArray, List.length_cons, List.length_nil, Nat.reduceAdd, Nat.reduceSub, Array.replicate_succ, Array.replicate_zero, List.push_toArray, List.append_toArray, List.nil_append, List.cons_append]
  go_wp2_with fail
  refine HBg.out.mono ?_
  rintro e w2 ⟨rfl, hL2, ho2⟩
  obtain ⟨w3, st3, hg3, hb3⟩ := put_hd w2 h.cs rfl (by simp [Value.oneCell'])
  have HL3 := Lib.hid (hL2.below hb3)
  have HO3 := Lib.hid (ho2.step_below hb3)
  have HC3 := Lib.hid ((HC.out.only ho2).below hb3)
  by_cases he : er = 0
  · subst he
    have ok := HK.out rfl
    have hf := HF.out rfl
    have HH3 := Lib.hid hg3
    have HSz := Lib.hid (show w.heap.size ≤ w2.heap.size from ho2.size)
    have cn3 : w3.cell? ⟨w2.heap.size, 2, none⟩ = some (.int .i64 h.next) := cell_at hg3 rfl
    simp only [ne_eq, not_true_eq_false, if_false] at HRV
    obtain ⟨w4, st4, hg4, hb4⟩ := put_lr w3 ⟨h.next, unit, a, cap, l⟩
    have HL4 := Lib.hid (HL3.out.below hb4)
    have HO4 := Lib.hid (HO3.out.step_below hb4)
    have HH4 := Lib.hid (heap_below hb4 (lt_of_block hg3) hg3)
    have HR4 := Lib.hid hg4
    have HC4 := Lib.hid (HC3.out.below hb4)
    have ldr := loadLr_at hg4 rfl
    have HEn := Lib.hid (encode_w w4 w4.heap.size ⟨h.next, unit, a, cap, l⟩ HC4.out.at' (Nat.le_refl _) HLL.out HCl.out)
    have HEt := Lib.hid (show encT ⟨h.next, unit, a, cap, l⟩ = (if (Rc.mk h.next unit l).sound = false then #[.string ⟨#[]⟩, .int .i64 1] else if 16384 < (Rc.mk h.next unit l).b.length then #[.string ⟨#[]⟩, .int .i64 8] else #[.string ⟨(Rc.mk h.next unit l).b.toArray⟩, .int .i64 0]) from rfl)
    have HOk := Lib.hid ok
    have HFt := Lib.hid hf
    clear hL2 ho2 hg3 hb3 hg4 hb4 ok hf
    obtain ⟨r, hr⟩ : ∃ r : Rc, r = ⟨h.next, unit, l⟩ := ⟨_, rfl⟩
    rw [← hr] at HRV HEt
    have HRr := Lib.hid hr
    clear hr
    by_cases hs : r.sound = false
    · have HR := Lib.hid (show R = ((0, 1), A', B') by rw [HRV.out]; exact if_pos hs)
      rw [HEt.out, if_pos hs] at HEn
      clear hs
      go_wp2_with fail
      refine HEn.out.mono ?_
      rintro e w5 ⟨rfl, hb5⟩
      have HB5 := Lib.hid hb5
      clear hb5
      go_wp2_with fail
      refine ⟨.tuple #[.int .i64 0, .int .i64 1], by simp [results, Tryz.f38, go_sem], ?_⟩
      exact ⟨by rw [HR.out], by rw [HR.out]; exact HL4.out.below HB5.out, HO4.out.step_below HB5.out⟩
    · have hs' : r.sound = true := by simpa using hs
      rw [if_neg hs] at HRV
      rw [HEt.out, if_neg hs] at HEn
      by_cases hbl : 16384 < r.b.length
      · have HR := Lib.hid (show R = ((0, 8), A', B') by rw [HRV.out]; exact if_pos hbl)
        rw [if_pos hbl] at HEn
        clear hs hs' hbl
        go_wp2_with fail
        refine HEn.out.mono ?_
        rintro e w5 ⟨rfl, hb5⟩
        have HB5 := Lib.hid hb5
        clear hb5
        go_wp2_with fail
        refine ⟨.tuple #[.int .i64 0, .int .i64 8], by simp [results, Tryz.f38, go_sem], ?_⟩
        exact ⟨by rw [HR.out], by rw [HR.out]; exact HL4.out.below HB5.out, HO4.out.step_below HB5.out⟩
      · rw [if_neg hbl] at HEn HRV
        have HSo := Lib.hid hs'
        have HBl := Lib.hid (show r.b.length ≤ 16384 by omega)
        have HNum := Lib.hid (Rc.sound_num hs')
        have hsz : r.b.length ≤ 1000000 := by omega
        obtain ⟨s, hse⟩ : ∃ s, s = r.b := ⟨_, rfl⟩
        rw [← hse] at HRV HEn HBl hsz
        have HSe := Lib.hid hse
        have HSz2 := Lib.hid (fun V => size_w s.length (by have := HBl.out; omega) V)
        have HFr := Lib.hid (fun V => free_w h HOk.out V)
        clear hs hs' hbl hse
        go_wp2_with fail
        refine HEn.out.mono ?_
        rintro e w5 ⟨rfl, hb5⟩
        have HB5 := Lib.hid hb5
        have HH5 := Lib.hid (heap_below hb5 (lt_of_block HH4.out) HH4.out)
        have HR5 := Lib.hid (heap_below hb5 (lt_of_block HR4.out) HR4.out)
        have HL5 := Lib.hid (HL4.out.below hb5)
        have HO5 := Lib.hid (HO4.out.step_below hb5)
        clear hb5 ldr cn3 st3 st4
        go_wp2_with fail
        refine (HSz2.out _).mono ?_
        rintro e w5' ⟨rfl, rfl⟩
        have ldh := loadHd_at HH5.out rfl
        obtain ⟨N, hN⟩ : ∃ N, N = cntW s.length := ⟨_, rfl⟩
        rw [← hN] at HRV ⊢
        have HNe := Lib.hid hN
        clear hN
        go_wp2_with fail
        refine (HFr.out _).mono ?_
        rintro e w6 ⟨rfl, hb6⟩
        have HB6 := Lib.hid hb6
        have HH6 := Lib.hid (heap_below hb6 (lt_of_block HH5.out) HH5.out)
        have HR6 := Lib.hid (heap_below hb6 (lt_of_block HR5.out) HR5.out)
        have HL6 := Lib.hid (HL5.out.below hb6)
        have HO6 := Lib.hid (HO5.out.step_below hb6)
        clear hb6 ldh
        by_cases hfr : h.free < N
        · have HR := Lib.hid (show R = ((0, 14), A', B') by rw [HRV.out]; exact if_pos hfr)
          have hfi : (h.free : Int) < (N : Int) := by omega
          clear hfr
          go_wp2_with fail
          refine ⟨.tuple #[.int .i64 0, .int .i64 14], by simp [results, Tryz.f38, go_sem], ?_⟩
          exact ⟨by rw [HR.out], by rw [HR.out]; exact HL6.out, HO6.out⟩
        · rw [if_neg hfr] at HRV
          have hfi : ¬ (h.free : Int) < (N : Int) := by omega
          have HFi := Lib.hid (show N ≤ h.free by omega)
          clear hfr
          obtain ⟨c0, hc0⟩ : ∃ c0, c0 = w2.heap.size := ⟨_, rfl⟩
          obtain ⟨r0, hr0⟩ : ∃ r0, r0 = w3.heap.size := ⟨_, rfl⟩
          obtain ⟨l0, hl0⟩ : ∃ l0, l0 = w6.heap.size := ⟨_, rfl⟩
          have HOrd := Lib.hid (show lb < c0 ∧ (∀ x, x ∈ ka.s ∨ x ∈ kb.s → x < c0) ∧ w.heap.size ≤ c0 ∧ c0 < r0 ∧ r0 < l0 from by
            have h1 := HSz.out
            have h2 := lt_of_block HLw.out.row
            have h3 := lt_of_block HH3.out
            have h4 := lt_of_block HR6.out
            refine ⟨by omega, fun x hx => ?_, by omega, by omega, by omega⟩
            have := HLw.out.lt x hx
            omega)
          rw [← hc0] at HH6 ⊢
          rw [← hr0] at HR6 ⊢
          obtain ⟨w7, hw7⟩ : ∃ w7, w7 = w6.alloc (.cells #[.slice none 0 0] 139) := ⟨_, rfl⟩
          have hb7 : Below w6.heap.size w6 w7 := by rw [hw7]; exact box_below0 _ _ _
          have HLc7 := Lib.hid (show w7.heap[l0]? = some (.cells #[.slice none 0 0] 139 (0, 0)) by rw [hw7, hl0]; exact heap_alloc_new _ _)
          have HH7 := Lib.hid (heap_below hb7 (lt_of_block HH6.out) HH6.out)
          have HR7 := Lib.hid (heap_below hb7 (lt_of_block HR6.out) HR6.out)
          have HL7 := Lib.hid (HL6.out.below hb7)
          have HO7 := Lib.hid (HO6.out.step_below hb7)
          have HW7 := Lib.hid hw7
          have HL0 := Lib.hid hl0
          have HRn := Lib.hid (show r.num = (h.next : Int) by rw [HRr.out])
          have HRl := Lib.hid (show r.l = l by rw [HRr.out])
          have cr7 : w7.cell? ⟨r0, 0, none⟩ = some (.int .i64 h.next) := cell_at HR7.out rfl
          have HPw := Lib.hid (fun V => pieces_w V h.next s HBl.out)
          clear hb7 hw7 hl0 hc0 hr0 HEn
          go_upto_region 12 with fail
          rw [← HL0.out, ← HW7.out]
          go_wp2_with fail
          refine (HPw.out _).mono ?_
          rintro e w8 ⟨bs, bn, sb, rfl, hpc, hbs, hbn, hsb, hb8⟩
          have HLc8 := Lib.hid (heap_below hb8 (lt_of_block HLc7.out) HLc7.out)
          have HH8 := Lib.hid (heap_below hb8 (lt_of_block HH7.out) HH7.out)
          have HR8 := Lib.hid (heap_below hb8 (lt_of_block HR7.out) HR7.out)
          have HL8 := Lib.hid (HL7.out.below hb8)
          have HO8 := Lib.hid (HO7.out.step_below hb8)
          have HPc := Lib.hid hpc
          have HBs := Lib.hid (show (l0 < bs ∧ l0 < bn ∧ l0 < sb) ∧ (bs < w8.heap.size ∧ bn < w8.heap.size ∧ sb < w8.heap.size) ∧ l0 < w8.heap.size from by
            have h1 := lt_of_block HLc7.out
            have h2 := lt_of_block HLc8.out
            exact ⟨⟨by omega, by omega, by omega⟩, hpc.lt, h2⟩)
          clear hb8 hbs hbn hsb cr7 hpc HPw
          go_wp2_with fail
          have hs0 : 0 < s.length := by rw [HSe.out]; exact r.b_pos
          have hno : h.next ≤ 1099511627776 := by
            have h1 := HNum.out
            have h2 := HRn.out
            omega
          have hin : ∀ i, i ∈ ownB w8.heap.size (7 + 2) → w8.heap.size ≤ i ∧ i < w8.heap.size + 9 := fun i hi => by rw [ownB_mem] at hi; exact hi
          have hA : ∀ k P Q, ApI w (fS ka kb A B) lb ka kb A' B' c0 r0 l0 (w8.heap.size + 9) h (lrC h.next unit a l.length cap) h.next s k P → Only (ownB w8.heap.size (7 + 2)) P Q → ApI w (fS ka kb A B) lb ka kb A' B' c0 r0 l0 (w8.heap.size + 9) h (lrC h.next unit a l.length cap) h.next s k Q := by
            intro k P Q i ho
            refine i.keep ho (fun x hx => ?_)
            have h1 := hin x hx
            have h2 := HOrd.out
            have h3 := HBs.out
            refine ⟨fun hm => ?_, fun hm => ?_, by omega, by omega, by omega, by omega, by omega, by omega⟩
            · have := h2.2.1 x (Or.inl hm); omega
            · have := h2.2.1 x (Or.inr hm); omega
          have hSt : ApI w (fS ka kb A B) lb ka kb A' B' c0 r0 l0 (w8.heap.size + 9) h (lrC h.next unit a l.length cap) h.next s 0 w8 := ⟨HL8.out, HH8.out, HR8.out, ⟨_, HLc8.out, RowE.nil _ _⟩, HO8.out⟩
          have hps : ∀ x ∈ pcsA h.next s, x.size = 2 := fun x hx => by simp [pcsA] at hx; obtain ⟨_, _, rfl⟩ := hx; rfl
          refine (wpIn_wide (n := 0)).1 ?_
          refine wpIn_rangeFunc_o (gf := 95) (lb := #[.pointer (some ⟨bs, 0, none⟩), .pointer (some ⟨bn, 0, none⟩), .pointer (some ⟨sb, 0, none⟩)]) rfl (enters_of Tryz.func95 (by kernel_rfl) rfl)
            (pieces_o s h.next HBl.out hs0 hno bs bn sb w8 HPc.out) (Below.refl _ _) (fun x hx => by simp at hx; have := HBs.out; omega) hps (ApI w (fS ka kb A B) lb ka kb A' B' c0 r0 l0 (w8.heap.size + 9) h (lrC h.next unit a l.length cap) h.next s) (fun _ _ _ => False) hA (fun _ _ _ _ hf _ => hf) hSt ?round ?done ?stop
          case round =>
            intro rl k hk Wr R' hR'
            have hpl : (pcsA h.next s).length = cntW s.length := by simp [pcsA]
            have hkc : k < cntW s.length := by rw [← hpl]; exact hk
            have hLk : (pcsA h.next s)[k] = #[.int .i64 (k : Nat), .string ⟨(pieceS h.next k s).toArray⟩] := by simp [pcsA]
            rw [hLk]
            obtain ⟨Y, hY⟩ : ∃ Y, Y = pieceS h.next k s := ⟨_, rfl⟩
            rw [← hY]
            have HTk := Lib.hid (listW_take h h.next s k hkc)
            rw [← hY] at HTk
            have hXln : ((listW h h.next s).take k).length = k := by rw [List.length_take, listW_len]; omega
            clear hA hSt hps hpl hLk hY hin
            gi_wp2
            rintro W2 hI hsz
            have hused := HOk.out.used
            have hn16 := HOk.out.n
            have hatb := HOk.out.at'
            have hk171 : k < 171 := by have := cntW_le HBl.out; omega
            have HI := Lib.hid hI
            have HHd := Lib.hid hI.hd
            obtain ⟨v, hlc, hrow⟩ := hI.row
            obtain ⟨X, hX⟩ : ∃ X, X = (listW h h.next s).take k := ⟨_, rfl⟩
            rw [← hX] at hrow HTk hXln
            obtain ⟨va, vc, rfl⟩ := RowE.spell encWt hrow
            have HRow := Lib.hid hrow
            have HLc := Lib.hid hlc
            have HXl := Lib.hid hXln
            have HBase := Lib.hid (show w8.heap.size + 9 ≤ W2.heap.size from hsz)
            have hsu : IntKind.i64.wrap ((h.used : Int) + (k : Int)) = ((h.used + k : Nat) : Int) := by rw [IntWalk.i64_in _ (by omega)]; omega
            have HPl := Lib.hid (fun V => place_w h hn16 h.at' (h.used + k) ⟨hatb.1, by omega⟩ (by omega) V)
            generalize h.place h.at' (h.used + k) = P at HPl HTk
            have e0 := loadHd_at (w := W2.drew) hI.hd rfl
            have e1 : W2.drew.cell? ⟨c0, 3, none⟩ = some (.int .i64 h.at') := cell_at (w := W2.drew) hI.hd rfl
            have e2 : W2.drew.cell? ⟨c0, 4, none⟩ = some (.int .i64 h.used) := cell_at (w := W2.drew) hI.hd rfl
            have cl : W2.drew.cell? ⟨l0, 0, none⟩ = some (.slice va X.length vc) := cell_at (w := W2.drew) hlc rfl
            have HNe := Lib.hid (show c0 ≠ l0 from by have := HOrd.out; omega)
            have hob : ∀ x ∈ (Value.slice va X.length vc).ownBlock.toList, w8.heap.size + 9 ≤ x := fun x hx => row_own hrow (by simpa using hx)
            have HOb := Lib.hid hob
            have HNc := Lib.hid (show c0 ∉ (Value.slice va X.length vc).ownBlock.toList ∧ l0 ∉ (Value.slice va X.length vc).ownBlock.toList from by
              have h1 := HOrd.out
              have h2 := HBs.out
              exact ⟨fun hm => by have := hob _ hm; omega, fun hm => by have := hob _ hm; omega⟩)
            have HX := Lib.hid hX
            clear hI hlc hrow hX hXln hsz hob hused hn16 hatb hkc hk
            gi_upto_region 15 with fail
            refine wpIn_region_held_round rl (S := fun w' => (loadHd ⟨c0, 0, none⟩).run Tryz.prog w' = .ok (.agg h.cs) w' ∧ w'.cell? ⟨c0, 3, none⟩ = some (.int .i64 h.at') ∧ w'.cell? ⟨c0, 4, none⟩ = some (.int .i64 h.used)) (by kernel_rfl) (by kernel_rfl) ⟨e0, e1, e2⟩ (fun hHeld => ?_)
            refine take_at (i := 1) (v := .agg h.cs) (d := some 51) rfl rfl (by kernel_rfl) (by kernel_rfl) (by kernel_rfl) (fun _ _ _ h => h) (Or.inl ⟨by rfl, ?hyt1⟩) (by assumption) ?restt1
            case hyt1 =>
              intro W hSw
              (try dsimp only at hSw)
              go_simp
            try simp only [Act.put, List.setIfInBounds_toArray, List.set_cons_zero, List.set_cons_succ]
            refine take_at (i := 2) (v := .pointer (some ⟨c0, 3, none⟩)) (d := some 52) rfl rfl (by kernel_rfl) (by kernel_rfl) (by kernel_rfl) (fun _ _ _ h => h) (Or.inl ⟨by rfl, ?hyt2⟩) (by assumption) ?restt2
            case hyt2 =>
              intro W hSw
              (try dsimp only at hSw)
              go_simp
            try simp only [Act.put, List.setIfInBounds_toArray, List.set_cons_zero, List.set_cons_succ]
            refine take_at (i := 3) (v := .int .i64 h.at') (d := some 53) rfl rfl (by kernel_rfl) (by kernel_rfl) (by kernel_rfl) (fun _ _ _ h => h) (Or.inl ⟨by rfl, ?hyt3⟩) (by assumption) ?restt3
            case hyt3 =>
              intro W hSw
              (try dsimp only at hSw)
              go_simp
            try simp only [Act.put, List.setIfInBounds_toArray, List.set_cons_zero, List.set_cons_succ]
            refine take_at (i := 4) (v := .pointer (some ⟨c0, 4, none⟩)) (d := some 54) rfl rfl (by kernel_rfl) (by kernel_rfl) (by kernel_rfl) (fun _ _ _ h => h) (Or.inl ⟨by rfl, ?hyt4⟩) (by assumption) ?restt4
            case hyt4 =>
              intro W hSw
              (try dsimp only at hSw)
              go_simp
            try simp only [Act.put, List.setIfInBounds_toArray, List.set_cons_zero, List.set_cons_succ]
            refine take_at (i := 5) (v := .int .i64 h.used) (d := some 55) rfl rfl (by kernel_rfl) (by kernel_rfl) (by kernel_rfl) (fun _ _ _ h => h) (Or.inl ⟨by rfl, ?hyt5⟩) (by assumption) ?restt5
            case hyt5 =>
              intro W hSw
              (try dsimp only at hSw)
              go_simp
            try simp only [Act.put, List.setIfInBounds_toArray, List.set_cons_zero, List.set_cons_succ]
            refine take_at (i := 6) (v := .int .i64 k) (d := some 56) rfl rfl (by kernel_rfl) (by kernel_rfl) (by kernel_rfl) (fun _ _ _ h => h) (Or.inl ⟨by rfl, ?hyt6⟩) (by assumption) ?restt6
            case hyt6 =>
              intro W hSw
              (try dsimp only at hSw)
              go_simp
            try simp only [Act.put, List.setIfInBounds_toArray, List.set_cons_zero, List.set_cons_succ]
            refine take_at (i := 7) (v := .int .i64 (h.used + k : Nat)) (d := some 57) rfl rfl (by kernel_rfl) (by kernel_rfl) (by kernel_rfl) (fun _ _ _ h => h) (Or.inl ⟨by rfl, ?hyt7⟩) (by assumption) ?restt7
            case hyt7 =>
              intro W hSw
              (try dsimp only at hSw)
              go_simp
            try simp only [Act.put, List.setIfInBounds_toArray, List.set_cons_zero, List.set_cons_succ]
            refine take_at (i := 9) (v := .string ⟨Y.toArray⟩) (d := some 59) rfl rfl (by kernel_rfl) (by kernel_rfl) (by kernel_rfl) (fun _ _ _ h => h) (Or.inl ⟨by rfl, ?hyt8⟩) (by assumption) ?restt8
            case hyt8 =>
              intro W hSw
              (try dsimp only at hSw)
              go_simp
            try simp only [Act.put, List.setIfInBounds_toArray, List.set_cons_zero, List.set_cons_succ]
            refine (fun (key : ∀ V b, Hid (Below W2.heap.size W2 V) → Hid (V.heap[b]? = some (.cells (wtC (P : Nat) Y) 135 (0, 0))) → (?G15 : World → Nat → Prop) V b) => ?main15) ?key15
            case main15 =>
              refine wpAnyH_ready (rs := [0, 8]) (by kernel_rfl) (by simp) ?_
              refine AllReadyH.cons rfl (fun K hK => ?_) (AllReadyH.cons rfl (fun K hK => ?_) AllReadyH.nil)
              · skip
                go_simp
                (try go_wp2_with fail)
                refine hK.out _ _ ⟨e0, e1, e2⟩ (fun hHeld => ?_)
                clear hK K
                try simp only [Act.put, List.setIfInBounds_toArray, List.set_cons_zero, List.set_cons_succ]
                refine wpAnyH_ready (rs := [8]) (by kernel_rfl) (by simp) ?_
                refine AllReadyH.cons rfl (fun K hK => ?_) AllReadyH.nil
                go_simp
                refine (HPl.out _).mono ?_
                rintro e V1 ⟨rfl, hb1⟩
                have HV1 := Lib.hid (show Below W2.heap.size W2 V1 from below_drew1.trans hb1)
                clear hb1
                (try go_wp2_with fail)
                refine hK.out _ _ ⟨loadHd_at (heap_below HV1.out (lt_of_block HHd.out) HHd.out) rfl, cell_at (heap_below HV1.out (lt_of_block HHd.out) HHd.out) rfl, cell_at (heap_below HV1.out (lt_of_block HHd.out) HHd.out) rfl⟩ (fun hHeld => ?_)
                clear hK K
                try simp only [Act.put, List.setIfInBounds_toArray, List.set_cons_zero, List.set_cons_succ]
                refine take_at (i := 10) (v := .agg (wtC (P : Nat) Y)) (d := some 60) rfl rfl (by kernel_rfl) (by kernel_rfl) (by kernel_rfl) (fun _ _ _ h => h) (Or.inl ⟨by rfl, ?hyt9⟩) (by assumption) ?restt9
                case hyt9 =>
                  intro W hSw
                  (try dsimp only at hSw)
                  go_simp
                try simp only [Act.put, List.setIfInBounds_toArray, List.set_cons_zero, List.set_cons_succ]
                obtain ⟨V2, hV2⟩ : ∃ V2, V2 = V1.alloc (.cells (wtC (P : Nat) Y) 135) := ⟨_, rfl⟩
                have hbx : Below V1.heap.size V1 V2 := by rw [hV2]; exact box_below0 V1 (wtC (P : Nat) Y) 135
                have HG2 := Lib.hid (show V2.heap[V1.heap.size]? = some (.cells (wtC (P : Nat) Y) 135 (0, 0)) by rw [hV2]; exact heap_alloc_new V1 _)
                have HV2 := Lib.hid (HV1.out.trans (hbx.mono HV1.out.size))
                have HHd2 := Lib.hid (heap_below HV2.out (lt_of_block HHd.out) HHd.out)
                have HE2 := Lib.hid hV2
                clear hV2 hbx
                refine wpAnyH_ready (rs := [11]) (by kernel_rfl) (by simp) ?_
                refine AllReadyH.cons rfl (fun K hK => ?_) AllReadyH.nil
                go_simp
                rw [← HE2.out]
                (try go_wp2_with fail)
                refine hK.out _ _ ⟨loadHd_at HHd2.out rfl, cell_at HHd2.out rfl, cell_at HHd2.out rfl⟩ (fun hHeld => ?_)
                clear hK K
                try simp only [Act.put, List.setIfInBounds_toArray, List.set_cons_zero, List.set_cons_succ]
                generalize V1.heap.size = b at HG2 ⊢
                exact key _ _ HV2 HG2
              · skip
                go_simp
                refine (HPl.out _).mono ?_
                rintro e V1 ⟨rfl, hb1⟩
                have HV1 := Lib.hid (show Below W2.heap.size W2 V1 from below_drew1.trans hb1)
                clear hb1
                (try go_wp2_with fail)
                refine hK.out _ _ ⟨loadHd_at (heap_below HV1.out (lt_of_block HHd.out) HHd.out) rfl, cell_at (heap_below HV1.out (lt_of_block HHd.out) HHd.out) rfl, cell_at (heap_below HV1.out (lt_of_block HHd.out) HHd.out) rfl⟩ (fun hHeld => ?_)
                clear hK K
                try simp only [Act.put, List.setIfInBounds_toArray, List.set_cons_zero, List.set_cons_succ]
                refine take_at (i := 10) (v := .agg (wtC (P : Nat) Y)) (d := some 60) rfl rfl (by kernel_rfl) (by kernel_rfl) (by kernel_rfl) (fun _ _ _ h => h) (Or.inl ⟨by rfl, ?hyt10⟩) (by assumption) ?restt10
                case hyt10 =>
                  intro W hSw
                  (try dsimp only at hSw)
                  go_simp
                try simp only [Act.put, List.setIfInBounds_toArray, List.set_cons_zero, List.set_cons_succ]
                refine wpAnyH_ready (rs := [0, 11]) (by kernel_rfl) (by simp) ?_
                refine AllReadyH.cons rfl (fun K hK => ?_) (AllReadyH.cons rfl (fun K hK => ?_) AllReadyH.nil)
                · skip
                  have cl1 : V1.cell? ⟨l0, 0, none⟩ = some (.slice va X.length vc) := cell_at (heap_below HV1.out (lt_of_block HLc.out) HLc.out) rfl
                  go_simp
                  (try go_wp2_with fail)
                  refine hK.out _ _ ⟨loadHd_at (heap_below HV1.out (lt_of_block HHd.out) HHd.out) rfl, cell_at (heap_below HV1.out (lt_of_block HHd.out) HHd.out) rfl, cell_at (heap_below HV1.out (lt_of_block HHd.out) HHd.out) rfl⟩ (fun hHeld => ?_)
                  clear hK K
                  try simp only [Act.put, List.setIfInBounds_toArray, List.set_cons_zero, List.set_cons_succ]
                  clear cl1
                  obtain ⟨V2, hV2⟩ : ∃ V2, V2 = V1.alloc (.cells (wtC (P : Nat) Y) 135) := ⟨_, rfl⟩
                  have hbx : Below V1.heap.size V1 V2 := by rw [hV2]; exact box_below0 V1 (wtC (P : Nat) Y) 135
                  have HG2 := Lib.hid (show V2.heap[V1.heap.size]? = some (.cells (wtC (P : Nat) Y) 135 (0, 0)) by rw [hV2]; exact heap_alloc_new V1 _)
                  have HV2 := Lib.hid (HV1.out.trans (hbx.mono HV1.out.size))
                  have HHd2 := Lib.hid (heap_below HV2.out (lt_of_block HHd.out) HHd.out)
                  have HE2 := Lib.hid hV2
                  clear hV2 hbx
                  refine wpAnyH_ready (rs := [11]) (by kernel_rfl) (by simp) ?_
                  refine AllReadyH.cons rfl (fun K hK => ?_) AllReadyH.nil
                  go_simp
                  rw [← HE2.out]
                  (try go_wp2_with fail)
                  refine hK.out _ _ ⟨loadHd_at HHd2.out rfl, cell_at HHd2.out rfl, cell_at HHd2.out rfl⟩ (fun hHeld => ?_)
                  clear hK K
                  try simp only [Act.put, List.setIfInBounds_toArray, List.set_cons_zero, List.set_cons_succ]
                  generalize V1.heap.size = b at HG2 ⊢
                  exact key _ _ HV2 HG2
                · skip
                  obtain ⟨V2, hV2⟩ : ∃ V2, V2 = V1.alloc (.cells (wtC (P : Nat) Y) 135) := ⟨_, rfl⟩
                  have hbx : Below V1.heap.size V1 V2 := by rw [hV2]; exact box_below0 V1 (wtC (P : Nat) Y) 135
                  have HG2 := Lib.hid (show V2.heap[V1.heap.size]? = some (.cells (wtC (P : Nat) Y) 135 (0, 0)) by rw [hV2]; exact heap_alloc_new V1 _)
                  have HV2 := Lib.hid (HV1.out.trans (hbx.mono HV1.out.size))
                  have HHd2 := Lib.hid (heap_below HV2.out (lt_of_block HHd.out) HHd.out)
                  have HE2 := Lib.hid hV2
                  clear hV2 hbx
                  go_simp
                  rw [← HE2.out]
                  (try go_wp2_with fail)
                  refine hK.out _ _ ⟨loadHd_at HHd2.out rfl, cell_at HHd2.out rfl, cell_at HHd2.out rfl⟩ (fun hHeld => ?_)
                  clear hK K
                  try simp only [Act.put, List.setIfInBounds_toArray, List.set_cons_zero, List.set_cons_succ]
                  have cl1 : V2.cell? ⟨l0, 0, none⟩ = some (.slice va X.length vc) := cell_at (heap_below HV2.out (lt_of_block HLc.out) HLc.out) rfl
                  refine wpAnyH_ready (rs := [0]) (by kernel_rfl) (by simp) ?_
                  refine AllReadyH.cons rfl (fun K hK => ?_) AllReadyH.nil
                  go_simp
                  (try go_wp2_with fail)
                  refine hK.out _ _ ⟨loadHd_at HHd2.out rfl, cell_at HHd2.out rfl, cell_at HHd2.out rfl⟩ (fun hHeld => ?_)
                  clear hK K
                  try simp only [Act.put, List.setIfInBounds_toArray, List.set_cons_zero, List.set_cons_succ]
                  clear cl1
                  generalize V1.heap.size = b at HG2 ⊢
                  exact key _ _ HV2 HG2
            case key15 =>
              intro V2 b HV2 HG2
              clear e0 e1 e2 cl
              have HHd2 := Lib.hid (heap_below HV2.out (lt_of_block HHd.out) HHd.out)
              refine wpAnyH_ready (rs := [12]) (by kernel_rfl) (by simp) ?_
              refine AllReadyH.cons rfl (fun K hK => ?_) AllReadyH.nil
              refine step_append_one rfl _ _ rfl encWt (w8.heap.size + 9) (.slice va X.length vc) X (P, Y) rfl (HRow.out.below HV2.out) b rfl HG2.out rfl (by have := HXl.out; omega) (by have := HBase.out; have := HV2.out.size; omega) ?_
              rintro v' V3 hrow3 hgr3 how3
              obtain ⟨va', vc', rfl⟩ := RowE.spell encWt hrow3
              have HR3 := Lib.hid hrow3
              have HO3 := Lib.hid (show Only (Value.slice va X.length vc).ownBlock.toList V2 V3 from (Only.refl _ V2).grown hgr3 (fun k hk => Or.inl (by simp [hk])))
              have HHd3 := Lib.hid (HO3.out.heap HHd2.out HNc.out.1)
              have hlc3 := HO3.out.heap (heap_below HV2.out (lt_of_block HLc.out) HLc.out) HNc.out.2
              have HLc3 := Lib.hid hlc3
              refine hK.out _ _ ⟨loadHd_at HHd3.out rfl, cell_at HHd3.out rfl, cell_at HHd3.out rfl⟩ (fun hHeld => ?_)
              clear hK K
              try simp only [Act.put, List.setIfInBounds_toArray]
              have fz3 : V3.frozen? ⟨l0, 0, none⟩ = false := free_at hlc3 0
              have cl3 : V3.cell? ⟨l0, 0, none⟩ = some (.slice va X.length vc) := cell_at hlc3 rfl
              clear hlc3 hrow3 hgr3
              have HHd4 := Lib.hid ((Only.setCell (p := ⟨l0, 0, none⟩) (Only.refl [l0] V3) (Or.inl (by simp)) (.slice va' (X.length + 1) vc')).heap HHd3.out (by simpa using HNe.out))
              refine wpAnyH_ready (rs := [13]) (by kernel_rfl) (by simp) ?_
              refine AllReadyH.cons rfl (fun K hK => ?_) AllReadyH.nil
              go_simp
              (try go_wp2_with fail)
              refine hK.out _ _ ⟨loadHd_at HHd4.out rfl, cell_at HHd4.out rfl, cell_at HHd4.out rfl⟩ (fun hHeld => ?_)
              clear hK K
              try simp only [Act.put, List.setIfInBounds_toArray, List.set_cons_zero, List.set_cons_succ]
              refine wpAnyH_done (by kernel_rfl) (NoOut.normal ?_) _
              have h4c := cell_row_any V3 l0 0 _ _ _ (.slice va' (X.length + 1) vc') HLc3.out
              have o4 := Only.setCell (p := ⟨l0, 0, none⟩) (Only.refl [l0] V3) (Or.inl (by simp)) (.slice va' (X.length + 1) vc')
              have HW4 := Lib.hid (And.intro h4c o4)
              clear h4c o4 fz3 cl3
              gi_wp2
              obtain ⟨W5, hW5⟩ : ∃ W5, W5 = V3.setCell ⟨l0, 0, none⟩ (.slice va' (X.length + 1) vc') := ⟨_, rfl⟩
              rw [← hW5] at HW4 ⊢
              have hOn : Only ((Value.slice va X.length vc).ownBlock.toList ++ [l0]) W2 W5 :=
                ((Only.of_below HV2.out).trans (HO3.out.mono (fun k hk _ => List.mem_append_left _ hk))).trans (HW4.out.2.mono (fun k hk _ => List.mem_append_right _ hk))
              have hge : ∀ x ∈ (Value.slice va X.length vc).ownBlock.toList ++ [l0], w8.heap.size + 9 ≤ x ∨ x = l0 := fun x hx => by
                rcases List.mem_append.1 hx with hx | hx
                · exact Or.inl (HOb.out x hx)
                · exact Or.inr (by simpa using hx)
              have hord := HOrd.out
              have hbs := HBs.out
              have hn : ∀ {y : Nat}, y < w8.heap.size → y ≠ l0 → y ∉ (Value.slice va X.length vc).ownBlock.toList ++ [l0] := fun hy hl hm => by
                rcases hge _ hm with h1 | h1 <;> omega
              have hI := HI.out
              refine ⟨hOn.kept (fun x hx hm => ?_), ⟨⟨hOn.heap hI.lg.row (hn (by omega) (by omega)), hI.lg.a.only hOn (fun x hx hm => ?_), hI.lg.b.only hOn (fun x hx hm => ?_), hI.lg.dis, fun x hx => Nat.lt_of_lt_of_le (hI.lg.lt x hx) hOn.size, hI.lg.lbn⟩,
                hOn.heap hI.hd (hn (by omega) (by omega)), hOn.heap hI.lr (hn (by omega) (by omega)), ⟨.slice va' (X.length + 1) vc', HW4.out.1, ?_⟩, hI.only.then hOn (fun x hx => Or.inr ?_)⟩⟩
              · rcases List.mem_append.1 hx with hx | hx
                · simp only [List.mem_cons, List.not_mem_nil, or_false] at hx
                  exact hn (by omega) (by omega) hm
                · rw [ownB_mem] at hx
                  rcases hge _ hm with h1 | h1 <;> omega
              · have := hord.2.1 x (Or.inl hx)
                exact hn (by omega) (by omega) hm
              · have := hord.2.1 x (Or.inr hx)
                exact hn (by omega) (by omega) hm
              · have h1 : WtRow W5 (w8.heap.size + 9) (.slice va' (X ++ [(P, Y)]).length vc') (X ++ [(P, Y)]) := HR3.out.only HW4.out.2 (fun y hy hm => by
                  have := row_own HR3.out hy
                  rw [List.mem_singleton] at hm
                  omega)
                rw [HTk.out]
                simpa only [List.length_append, List.length_cons, List.length_nil, Nat.zero_add] using h1
              · rcases hge x hx with h1 | h1 <;> omega
          case done =>
            rintro W hI hlt hK
            obtain ⟨v, hlc, hrow⟩ := hI.row
            rw [show (pcsA h.next s).length = cntW s.length by simp [pcsA], List.take_of_length_le (by rw [listW_len]; exact Nat.le_refl _)] at hrow
            have HLg := Lib.hid hI.lg
            have HHd := Lib.hid hI.hd
            have HLr := Lib.hid hI.lr
            have HOn := Lib.hid hI.only
            have HLc := Lib.hid hlc
            have HRow := Lib.hid hrow
            have HKK := Lib.hid hK
            have d0 := loadLr_at (w := W.drew) hI.lr rfl
            have d4 : W.drew.cell? ⟨c0, 4, none⟩ = some (.int .i64 h.used) := cell_at (w := W.drew) hI.hd rfl
            clear hA hSt hps hin hI hlc hrow hK hlt hs0 hno hfi
            have hnum := HNum.out
            have hrl := HRl.out
            have hrn := HRn.out
            have hus := HOk.out.used
            have hn16 := HOk.out.n
            have hfre := HFi.out
            have hla : r.last = r.num + r.l.length - 1 := rfl
            rw [hrl] at hnum hla
            have HLs := Lib.hid (fun V => last_w h.next unit a l.length cap V (by omega) (by omega) (by omega))
            obtain ⟨XN, hXN⟩ : ∃ XN, XN = r.last.toNat + 1 := ⟨_, rfl⟩
            obtain ⟨hXI, hXw, hX6, hX7, hXl⟩ := ap_num (n := h.next) (m := l.length) (XN := XN) (by omega) (by omega) (by omega)
            have hsu := ap_used (u := h.used) (N := N) (ap_le HOk.out HFi.out).1 (ap_le HOk.out HFi.out).2
            have HMc := Lib.hid (show (h.more r).cs = #[.int .i64 h.n, .int .i64 h.first, .int .i64 (XN : Nat), .int .i64 h.at', .int .i64 ((h.used : Int) + (N : Int))] by rw [hXN, HNe.out, HSe.out, ← Int.natCast_add]; rfl)
            have HRc := Lib.hid (show r0 ≠ c0 from by have := HOrd.out; omega)
            clear hnum hrl hrn hus hn16 hfre hla hXI hXN
            go_upto_region 16 with fail
            refine wp_region_noPanic ?_
            refine wp_region_held_drew (S := fun w' => (loadLr ⟨r0, 0, none⟩).run Tryz.prog w' = .ok (.agg (lrC h.next unit a l.length cap)) w') (by kernel_rfl) d0 (fun hHeld => ?_)
            refine take_at (i := 0) (v := .agg (lrC h.next unit a l.length cap)) (d := some 63) rfl rfl (by kernel_rfl) (by kernel_rfl) (by kernel_rfl) (fun _ _ _ h => h) (Or.inl ⟨by rfl, ?hyt101⟩) (by assumption) ?restt101
            case hyt101 =>
              intro W hSw
              (try dsimp only at hSw)
              go_simp
            try simp only [Act.put, List.setIfInBounds_toArray, List.set_cons_zero, List.set_cons_succ]
            refine take_at (i := 3) (v := .pointer (some ⟨c0, 4, none⟩)) (d := some 66) rfl rfl (by kernel_rfl) (by kernel_rfl) (by kernel_rfl) (fun _ _ _ h => h) (Or.inl ⟨by rfl, ?hyt102⟩) (by assumption) ?restt102
            case hyt102 =>
              intro W hSw
              (try dsimp only at hSw)
              go_simp
            try simp only [Act.put, List.setIfInBounds_toArray, List.set_cons_zero, List.set_cons_succ]
            refine take_at (i := 5) (v := .int .i64 N) (d := some 68) rfl rfl (by kernel_rfl) (by kernel_rfl) (by kernel_rfl) (fun _ _ _ h => h) (Or.inl ⟨by rfl, ?hyt103⟩) (by assumption) ?restt103
            case hyt103 =>
              intro W hSw
              (try dsimp only at hSw)
              go_simp
            try simp only [Act.put, List.setIfInBounds_toArray, List.set_cons_zero, List.set_cons_succ]
            refine (fun (key : ∀ V, Hid (Below W.heap.size W V) → (?G16 : World → Prop) V) => ?main16) ?key16
            case main16 =>
              refine wpAnyH_ready (rs := [1, 4]) (by kernel_rfl) (by simp) ?_
              refine AllReadyH.cons rfl (fun K hK => ?_) (AllReadyH.cons rfl (fun K hK => ?_) AllReadyH.nil)
              · skip
                go_simp
                refine (HLs.out _).mono ?_
                rintro e V1 ⟨rfl, hb1⟩
                have HV1 := Lib.hid (show Below W.heap.size W V1 from below_drew1.trans hb1)
                clear hb1
                (try go_wp2_with fail)
                refine hK.out _ _ (loadLr_at (heap_below HV1.out (lt_of_block HLr.out) HLr.out) rfl) (fun hHeld => ?_)
                clear hK K
                try simp only [Act.put, List.setIfInBounds_toArray, List.set_cons_zero, List.set_cons_succ]
                refine take_at (i := 2) (v := .int .i64 (XN : Nat)) (d := some 65) rfl rfl (by kernel_rfl) (by kernel_rfl) (by kernel_rfl) (fun _ _ _ h => h) (Or.inl ⟨by rfl, ?hyt104⟩) (by assumption) ?restt104
                case hyt104 =>
                  intro W hSw
                  (try dsimp only at hSw)
                  go_simp
                try simp only [Act.put, List.setIfInBounds_toArray, List.set_cons_zero, List.set_cons_succ]
                have cu1 : V1.cell? ⟨c0, 4, none⟩ = some (.int .i64 h.used) := cell_at (heap_below HV1.out (lt_of_block HHd.out) HHd.out) rfl
                refine wpAnyH_ready (rs := [4]) (by kernel_rfl) (by simp) ?_
                refine AllReadyH.cons rfl (fun K hK => ?_) AllReadyH.nil
                go_simp
                (try go_wp2_with fail)
                refine hK.out _ _ (loadLr_at (heap_below HV1.out (lt_of_block HLr.out) HLr.out) rfl) (fun hHeld => ?_)
                clear hK K
                try simp only [Act.put, List.setIfInBounds_toArray, List.set_cons_zero, List.set_cons_succ]
                clear cu1
                refine take_at (i := 6) (v := .int .i64 (h.used + N : Nat)) (d := some 69) rfl rfl (by kernel_rfl) (by kernel_rfl) (by kernel_rfl) (fun _ _ _ h => h) (Or.inl ⟨by rfl, ?hyt105⟩) (by assumption) ?restt105
                case hyt105 =>
                  intro W hSw
                  (try dsimp only at hSw)
                  go_simp
                try simp only [Act.put, List.setIfInBounds_toArray, List.set_cons_zero, List.set_cons_succ]
                refine take_at (i := 7) (v := .pointer (some ⟨c0, 2, none⟩)) (d := some 70) rfl rfl (by kernel_rfl) (by kernel_rfl) (by kernel_rfl) (fun _ _ _ h => h) (Or.inl ⟨by rfl, ?hyt106⟩) (by assumption) ?restt106
                case hyt106 =>
                  intro W hSw
                  (try dsimp only at hSw)
                  go_simp
                try simp only [Act.put, List.setIfInBounds_toArray, List.set_cons_zero, List.set_cons_succ]
                exact key _ HV1
              · skip
                go_simp
                (try go_wp2_with fail)
                refine hK.out _ _ (d0) (fun hHeld => ?_)
                clear hK K
                try simp only [Act.put, List.setIfInBounds_toArray, List.set_cons_zero, List.set_cons_succ]
                refine take_at (i := 6) (v := .int .i64 (h.used + N : Nat)) (d := some 69) rfl rfl (by kernel_rfl) (by kernel_rfl) (by kernel_rfl) (fun _ _ _ h => h) (Or.inl ⟨by rfl, ?hyt107⟩) (by assumption) ?restt107
                case hyt107 =>
                  intro W hSw
                  (try dsimp only at hSw)
                  go_simp
                try simp only [Act.put, List.setIfInBounds_toArray, List.set_cons_zero, List.set_cons_succ]
                refine wpAnyH_ready (rs := [1]) (by kernel_rfl) (by simp) ?_
                refine AllReadyH.cons rfl (fun K hK => ?_) AllReadyH.nil
                go_simp
                refine (HLs.out _).mono ?_
                rintro e V1 ⟨rfl, hb1⟩
                have HV1 := Lib.hid (show Below W.heap.size W V1 from below_drew1.trans hb1)
                clear hb1
                (try go_wp2_with fail)
                refine hK.out _ _ (loadLr_at (heap_below HV1.out (lt_of_block HLr.out) HLr.out) rfl) (fun hHeld => ?_)
                clear hK K
                try simp only [Act.put, List.setIfInBounds_toArray, List.set_cons_zero, List.set_cons_succ]
                refine take_at (i := 2) (v := .int .i64 (XN : Nat)) (d := some 65) rfl rfl (by kernel_rfl) (by kernel_rfl) (by kernel_rfl) (fun _ _ _ h => h) (Or.inl ⟨by rfl, ?hyt108⟩) (by assumption) ?restt108
                case hyt108 =>
                  intro W hSw
                  (try dsimp only at hSw)
                  go_simp
                try simp only [Act.put, List.setIfInBounds_toArray, List.set_cons_zero, List.set_cons_succ]
                refine take_at (i := 7) (v := .pointer (some ⟨c0, 2, none⟩)) (d := some 70) rfl rfl (by kernel_rfl) (by kernel_rfl) (by kernel_rfl) (fun _ _ _ h => h) (Or.inl ⟨by rfl, ?hyt109⟩) (by assumption) ?restt109
                case hyt109 =>
                  intro W hSw
                  (try dsimp only at hSw)
                  go_simp
                try simp only [Act.put, List.setIfInBounds_toArray, List.set_cons_zero, List.set_cons_succ]
                exact key _ HV1
            case key16 =>
              intro V HV
              clear d0 d4
              have HHv := Lib.hid (heap_below HV.out (lt_of_block HHd.out) HHd.out)
              have HLv := Lib.hid (heap_below HV.out (lt_of_block HLr.out) HLr.out)
              have r1 := cell_row_any V c0 2 _ _ _ (.int .i64 (XN : Nat)) HHv.out
              have r2 := cell_row_any (V.setCell ⟨c0, 2, none⟩ (.int .i64 (XN : Nat))) c0 4 _ _ _ (.int .i64 ((h.used : Int) + (N : Int))) r1
              have o1 : Only [c0] V (V.setCell ⟨c0, 2, none⟩ (.int .i64 (XN : Nat))) := (Only.refl _ _).setCell (Or.inl (by simp)) _
              have o2 : Only [c0] V ((V.setCell ⟨c0, 2, none⟩ (.int .i64 (XN : Nat))).setCell ⟨c0, 4, none⟩ (.int .i64 ((h.used : Int) + (N : Int)))) := o1.setCell (Or.inl (by simp)) _
              have f1 := loadLr_at (o1.heap HLv.out (by simpa using HRc.out)) rfl
              have f2 := loadLr_at (o2.heap HLv.out (by simpa using HRc.out)) rfl
              have a1 : V.cell? ⟨c0, 2, none⟩ = some (.int .i64 h.next) := cell_at HHv.out rfl
              have z1 : V.frozen? ⟨c0, 2, none⟩ = false := free_at HHv.out 2
              have a2 : (V.setCell ⟨c0, 2, none⟩ (.int .i64 (XN : Nat))).cell? ⟨c0, 4, none⟩ = some (.int .i64 h.used) := cell_at r1 rfl
              have z2 : (V.setCell ⟨c0, 2, none⟩ (.int .i64 (XN : Nat))).frozen? ⟨c0, 4, none⟩ = false := free_at r1 4
              have HR2 := Lib.hid r2
              have HO2 := Lib.hid o2
              clear r1 r2 o1 o2
              refine wpAnyH_ready (rs := [8]) (by kernel_rfl) (by simp) ?_
              refine AllReadyH.cons rfl (fun K hK => ?_) AllReadyH.nil
              go_simp
              (try go_wp2_with fail)
              refine hK.out _ _ (f1) (fun hHeld => ?_)
              clear hK K
              try simp only [Act.put, List.setIfInBounds_toArray, List.set_cons_zero, List.set_cons_succ]
              refine take_at (i := 9) (v := .pointer (some ⟨c0, 4, none⟩)) (d := some 71) rfl rfl (by kernel_rfl) (by kernel_rfl) (by kernel_rfl) (fun _ _ _ h => h) (Or.inl ⟨by rfl, ?hyt110⟩) (by assumption) ?restt110
              case hyt110 =>
                intro W hSw
                (try dsimp only at hSw)
                go_simp
              try simp only [Act.put, List.setIfInBounds_toArray, List.set_cons_zero, List.set_cons_succ]
              refine wpAnyH_ready (rs := [10]) (by kernel_rfl) (by simp) ?_
              refine AllReadyH.cons rfl (fun K hK => ?_) AllReadyH.nil
              go_simp
              (try go_wp2_with fail)
              refine hK.out _ _ (f2) (fun hHeld => ?_)
              clear hK K
              try simp only [Act.put, List.setIfInBounds_toArray, List.set_cons_zero, List.set_cons_succ]
              refine wpAnyH_done (by kernel_rfl) (NoPanic.normal ?_) _
              clear f1 f2 a1 a2 z1 z2
              obtain ⟨w9, hw9⟩ : ∃ w9, w9 = (V.setCell ⟨c0, 2, none⟩ (.int .i64 (XN : Nat))).setCell ⟨c0, 4, none⟩ (.int .i64 ((h.used : Int) + (N : Int))) := ⟨_, rfl⟩
              rw [← hw9] at HR2 HO2 ⊢
              have hMc9 : w9.heap[c0]? = some (.cells (h.more r).cs 105 (0, 0)) := by rw [HMc.out]; exact HR2.out
              have hO9 : Only [c0] W w9 := (Only.of_below HV.out).trans HO2.out
              have hord := HOrd.out
              have hbs := HBs.out
              have hnk : ∀ {x : Nat}, x ∈ ka.s ∨ x ∈ kb.s → x < c0 := fun h => hord.2.1 _ h
              have hL9 : LgAt w9 lb ka kb A' B' := ⟨hO9.heap HLg.out.row (by rw [List.mem_singleton]; omega), HLg.out.a.only hO9 (fun x hx hm => by rw [List.mem_singleton] at hm; have := hnk (Or.inl hx); omega),
                HLg.out.b.only hO9 (fun x hx hm => by rw [List.mem_singleton] at hm; have := hnk (Or.inr hx); omega), HLg.out.dis, fun x hx => Nat.lt_of_lt_of_le (HLg.out.lt x hx) hO9.size, HLg.out.lbn⟩
              obtain ⟨va, vc, rfl⟩ := RowE.spell encWt HRow.out
              have hadd : ∀ M, addM h r M = (let q := M.wrs (listW h h.next s); if q.1 ≠ 0 then q else q.2.wr [(0, (h.more r).s)]) := fun M => by
                unfold addM
                rw [show r.num.toNat = h.next by have := HRn.out; omega, ← HSe.out]
              have hNl : (listW h h.next s).length ≤ 171 := by rw [listW_len]; exact cntW_le HBl.out
              have hXne : listW h h.next s ≠ [] := fun e => by
                have h1 := listW_len h h.next s
                have h2 := r.b_pos
                rw [e, HSe.out] at h1
                unfold cntW at h1
                simp at h1
                omega
              obtain ⟨va', vc', hv', _, _, hcell⟩ := RowE.cells encWt HRow.out
              have hva : ∀ b off, va = some ⟨b, off, none⟩ → w8.heap.size + 9 ≤ b := fun b off e => by
                cases hv'
                obtain ⟨g, e2, _, hb, _⟩ := hcell hXne
                rw [e] at e2
                cases e2
                exact hb
              have hfS : ∀ {x : Nat}, c0 ≤ x → x ∉ fS ka kb A' B' := fun hx hm => by
                have := hnk (fS_mem hm)
                omega
              have hmor := more_hw HOk.out r HSo.out HRn.out (by rw [← HSe.out, ← HNe.out]; exact HFi.out)
              have HEach := Lib.hid (eachA_w w9 lb ka kb A' B' (addM h r) l0 c0 hL9.row hL9.a hL9.b hL9.dis (fun k M W' hk ho hM => by
                have hks : ∀ x ∈ k.s, x < c0 := by
                  rcases hk with rfl | rfl
                  · exact fun x hx => hnk (Or.inl hx)
                  · exact fun x hx => hnk (Or.inr hx)
                obtain ⟨a1, c1, e1, hcap, hw⟩ := wts_of_row HRow.out k.s (fun x hx => by have := hks x hx; omega)
                cases e1
                have hcl : W'.cell? ⟨l0, 0, none⟩ = some (.slice va (listW h h.next s).length vc) := cell_at (i := 0) (Only.heap ho (hO9.heap HLc.out (by rw [List.mem_singleton]; omega)) (hfS (by omega))) rfl
                have := addc_w W' l0 c0 k (h.more r) M va vc (listW h h.next s) hmor (Only.heap ho hMc9 (hfS (Nat.le_refl _))) hcl hM (fun hm => by have := hks _ hm; omega)
                  ((hw.only hO9 (fun b off e hm => by have := hva b off e; rw [List.mem_singleton] at hm; omega)).only ho (fun b off e => hfS (by have := hva b off e; omega))) hcap (by omega) (fun x hx => by
                    obtain ⟨i, hi, rfl⟩ := listW_mem hx
                    have h1 := HOk.out.n
                    have h2 := place_lt (h := h) (by omega) h.at' (h.used + i)
                    have h3 := cntW_le HBl.out
                    have h4 := HNum.out
                    have h5 := HRn.out
                    exact ⟨by show h.place _ _ ≤ _; omega, by show (pieceS _ _ _).length ≤ _; rw [pieceS_len _ _ _ (by omega) (by omega) HBl.out]; omega⟩)
                rw [hadd]
                exact this))
              have HL9 := Lib.hid hL9
              have HO9 := Lib.hid (show Only (fS ka kb A B) w w9 from HOn.out.then hO9 (fun x hx => Or.inr (by rw [List.mem_singleton] at hx; omega)))
              have HLr9 := Lib.hid (hO9.heap HLr.out (by rw [List.mem_singleton]; exact HRc.out))
              have HK9 := Lib.hid (hO9.heap HKK.out (by rw [List.mem_singleton]; omega))
              have HEv := Lib.hid (eachV_none (addM h r) A' B')
              have HS9 := Lib.hid (show r0 ∉ fS ka kb A' B' ∧ w8.heap.size ∉ fS ka kb A' B' ∧ (∀ x, x ∈ ka.s ∨ x ∈ kb.s → x ≠ w8.heap.size) ∧ lb ≠ w8.heap.size ∧ w.heap.size ≤ w8.heap.size from
                ⟨hfS (by omega), hfS (by omega), fun x hx => by have := hnk hx; omega, by omega, by omega⟩)
              have HRV2 := Lib.hid (show R = (let q := addV A' B' h r; ((if q.1 ≠ 0 then 0 else r.num, q.1), q.2)) from by rw [HRn.out]; simpa only [ne_eq] using HRV.out)
              rw [addV_eq] at HRV2
              clear hw9 hMc9 hO9 hord hbs hnk hL9 hadd hNl hXne hv' hcell hva hfS hmor
              go_wp2_with fail
              refine HEach.out.mono ?_
              rintro e w10 ⟨rfl, ha10, hb10, ho10⟩
              have HL10 := Lib.hid (HL9.out.upd ho10 ha10 hb10 HEv.out.1 HEv.out.2)
              have HO10 := Lib.hid (show Only (fS ka kb A B) w w10 from HO9.out.trans (by rw [← HFs.out]; exact ho10))
              have hlr10 := Only.heap ho10 HLr9.out HS9.out.1
              have hk10 := Only.heap ho10 HK9.out HS9.out.2.1
              have cn10 : w10.cell? ⟨r0, 0, none⟩ = some (.int .i64 h.next) := cell_at hlr10 rfl
              have HK10 := Lib.hid hk10
              have HFin := Lib.hid (show LgAt (w10.putObj w8.heap.size (.deferred none)) lb ka kb (eachV (addM h r) A' B').2.1 (eachV (addM h r) A' B').2.2 ∧ Only (fS ka kb A B) w (w10.putObj w8.heap.size (.deferred none)) from by
                have ho := only_putObj w10 w8.heap.size (.deferred none)
                have hs9 := HS9.out
                have hl := HL10.out
                refine ⟨⟨ho.heap hl.row (by rw [List.mem_singleton]; omega), hl.a.only ho (fun x hx hm => by rw [List.mem_singleton] at hm; exact hs9.2.2.1 x (Or.inl hx) hm), hl.b.only ho (fun x hx hm => by rw [List.mem_singleton] at hm; exact hs9.2.2.1 x (Or.inr hx) hm),
                  hl.dis, fun x hx => Nat.lt_of_lt_of_le (hl.lt x hx) ho.size, hl.lbn⟩, HO10.out.then ho (fun x hx => Or.inr (by rw [List.mem_singleton] at hx; omega))⟩)
              clear ha10 hb10 ho10 hlr10 hk10 HEach HL10
              generalize eachV (addM h r) A' B' = q at HFin HRV2 HEv ⊢
              obtain ⟨e2, A2, B2⟩ := q
              simp only at HFin HRV2
              by_cases he2 : e2 = 0
              · subst he2
                have HR := Lib.hid (show R = ((r.num, 0), A2, B2) by rw [HRV2.out]; simp)
                go_wp2_with fail
                refine ⟨by simp, .inl ⟨_, _, rfl, run_takeDeferred HK10.out, ?_⟩⟩
                refine ⟨.tuple #[.int .i64 h.next, .int .i64 0], by simp [results, Tryz.f38, go_sem], ?_⟩
                exact ⟨by rw [HR.out, HRn.out], by rw [HR.out]; exact HFin.out.1, HFin.out.2⟩
              · have hb0 : (e2 != 0) = true := by rw [bne_iff_ne]; exact he2
                have HR := Lib.hid (show R = ((0, e2), A2, B2) by rw [HRV2.out]; simp [he2])
                clear he2
                go_wp2_with fail
                refine ⟨by simp, .inl ⟨_, _, rfl, run_takeDeferred HK10.out, ?_⟩⟩
                refine ⟨.tuple #[.int .i64 0, .int .i64 e2], by simp [results, Tryz.f38, go_sem], ?_⟩
                exact ⟨by rw [HR.out], by rw [HR.out]; exact HFin.out.1, HFin.out.2⟩
          case stop =>
            intro d k W hk hf
            exact hf.elim
  · have hb0 : (er != 0) = true := by rw [bne_iff_ne]; exact he
    have HR := Lib.hid (show R = ((0, er), A', B') by rw [HRV.out]; exact if_pos he)
    clear hL2 ho2 hg3 hb3 he
    go_wp2_with fail
    refine ⟨.tuple #[.int .i64 0, .int .i64 er], by simp [results, Tryz.f38, go_sem], ?_⟩
    exact ⟨by rw [HR.out], by rw [HR.out]; exact HL3.out, HO3.out⟩
end
end Go.Proofs.YtjpkdhnponcciaaGreatDoor

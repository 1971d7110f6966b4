/-
  The law WalShared, walked. Condition: acts in memory, turns in memory.
-/
import Derived.Test.YtjpkdhnponcciaaGreatDoorCR
namespace Go.Proofs.YtjpkdhnponcciaaGreatDoor
open Go.RowKit Go.Sort

/-- Two logs over the same copies. -/
structure ShSt (w : World) (lb mb : Nat) (ka kb : Bk) (n : Nat) (h : Hw) (R : List Rc) (W : World) : Prop where
  ex : ∃ A B : Mm, LgAt W lb ka kb (some A) (some B) ∧ LgAt W mb ka kb (some A) (some B) ∧ Log (some A) (some B) h R
  n : h.n = n
  bel : Below w.heap.size w W
  lo : (∀ x, x ∈ ka.s ∨ x ∈ kb.s → w.heap.size ≤ x) ∧ w.heap.size ≤ lb ∧ w.heap.size ≤ mb
theorem LgAt.twin {W : World} {lb mb : Nat} {ka kb : Bk} {A B C D : Cp} (h : LgAt W lb ka kb A B) (hm : W.heap[mb]? = some (.cells #[ifC ka C, ifC kb D] 103 (0, 0))) (na : C.isNone = A.isNone) (nb : D.isNone = B.isNone) (hn : mb ∉ ka.s ∧ mb ∉ kb.s) : LgAt W mb ka kb A B :=
  ⟨by rw [← ifC_eq na, ← ifC_eq nb]; exact hm, h.a, h.b, h.dis, h.lt, hn⟩
theorem ShSt.left {w W : World} {lb mb : Nat} {ka kb : Bk} {n : Nat} {h : Hw} {R : List Rc} (s : ShSt w lb mb ka kb n h R W) : LawSt w lb ka kb n h R W := by
  obtain ⟨A, B, h1, h2, L⟩ := s.ex
  exact ⟨⟨A, B, h1, L⟩, s.n, s.bel, s.lo.1, s.lo.2.1⟩
theorem ShSt.swap {w W : World} {lb mb : Nat} {ka kb : Bk} {n : Nat} {h : Hw} {R : List Rc} (s : ShSt w lb mb ka kb n h R W) : ShSt w mb lb ka kb n h R W := by
  obtain ⟨A, B, h1, h2, L⟩ := s.ex
  exact ⟨⟨A, B, h2, h1, L⟩, s.n, s.bel, s.lo.1, s.lo.2.2, s.lo.2.1⟩
theorem ShSt.below {w W W' : World} {lb mb : Nat} {ka kb : Bk} {n : Nat} {h : Hw} {R : List Rc} (s : ShSt w lb mb ka kb n h R W) (hb : Below W.heap.size W W') : ShSt w lb mb ka kb n h R W' := by
  obtain ⟨A, B, h1, h2, L⟩ := s.ex
  exact ⟨⟨A, B, h1.below hb, h2.below hb, L⟩, s.n, s.bel.trans (hb.mono s.bel.size), s.lo⟩
/-- The other log over the copies that a step has left. -/
theorem ShSt.step {w W W' : World} {lb mb : Nat} {ka kb : Bk} {n : Nat} {h g : Hw} {R S : List Rc} (s : ShSt w lb mb ka kb n h R W) (t : LawSt w lb ka kb n g S W') (ho : Only (ka.s ++ kb.s) W W') : ShSt w lb mb ka kb n g S W' := by
  obtain ⟨A, B, h1, h2, L⟩ := s.ex
  obtain ⟨C, D, k1, M⟩ := t.ex
  have hm : W'.heap[mb]? = some (.cells #[ifC ka (some A), ifC kb (some B)] 103 (0, 0)) := ho.heap h2.row (fun hm => (List.mem_append.1 hm).elim h2.lbn.1 h2.lbn.2)
  exact ⟨⟨C, D, k1, k1.twin hm rfl rfl h2.lbn, M⟩, t.n, t.bel, s.lo⟩
theorem alike_l {w W : World} {lb mb : Nat} {ka kb : Bk} {n : Nat} {h : Hw} {R : List Rc} (s : ShSt w lb mb ka kb n h R W) :
    Calls Tryz.prog 23 #[.pointer (some ⟨lb, 0, none⟩), .pointer (some ⟨mb, 0, none⟩)] W fun e w' => e = .returned (.bool true) ∧ ShSt w lb mb ka kb n h R w' := by
  obtain ⟨A, B, h1, h2, L⟩ := s.ex
  refine (alike_w h1 L h2 L (fun w' ho k => k.twin (ho.heap h2.row (fun hm => (fS_mem hm).elim h2.lbn.1 h2.lbn.2)) rfl rfl h2.lbn) (fun _ _ => trivial) (fun x hx => h1.lt x (fS_mem hx))).mono ?_
  rintro e w' ⟨rfl, k, ho⟩
  have ho : Only ((ka.s ++ kb.s) ++ (ka.s ++ kb.s)) W w' := ho
  have ho : Only (ka.s ++ kb.s) W w' := ho.mono (fun x hx _ => (List.mem_append.1 hx).elim id id)
  exact ⟨rfl, ⟨A, B, k.twin (ho.heap h1.row (fun hm => (List.mem_append.1 hm).elim h1.lbn.1 h1.lbn.2)) rfl rfl h1.lbn, k, L⟩, s.n, s.left.bel' ho, s.lo⟩
section
attribute [local go_sem ↓] loadLr_down storeLr_down loadAc_down storeAc_down
set_option maxRecDepth 100000 in
set_option maxHeartbeats 8000000 in
theorem law_shared (w : World) (n : Nat) (hn : n ≤ 255) (a : Option Addr) (cap : Nat) (l : List AcV) (ta : Option Addr) (tc : Nat) (T : List Bool) (hA : Acts w w.heap.size a l) (hi : ∀ x ∈ l, (I64 x.kind ∧ I64 x.n) ∧ ∀ c ∈ x.l, I64 c.kind)
    (hT : T ≠ [] → ∃ b off, ta = some ⟨b, off, none⟩ ∧ b < w.heap.size ∧ ∀ i (h : i < T.length), w.cell? ⟨b, off + i, none⟩ = some (.bool T[i])) (_hTl : T.length ≤ maxLen) :
    Calls Tryz.prog 5 #[.int .u8 n, .slice a l.length cap, .slice ta T.length tc] w fun e w' => e = .returned (.bool true) ∧ Below w.heap.size w w' := by
  have HFw := Lib.hid (few48_any 20 w w.heap.size a cap l hA (Nat.le_refl _) (by omega))
  cases hf : fewA 20 l with
  | false =>
    rw [hf] at HFw
    clear hf hA hi hT
    go_enter Tryz.func5, Tryz.ntmps5
    go_wp2_with fail
    refine HFw.out.mono ?_
    rintro e w1 ⟨rfl, hb1⟩
    have HB1 := Lib.hid hb1
    have HAw := Lib.hid (awake48_w w1)
    clear hb1
    go_wp2_with fail
    refine HAw.out.mono ?_
    rintro e w2 ⟨rfl, hb2⟩
    have HB2 := Lib.hid (HB1.out.trans (hb2.mono HB1.out.size))
    clear hb2
    go_wp2_with fail
    go_ret
    exact ⟨rfl, HB2.out⟩
  | true =>
    rw [hf] at HFw
    obtain ⟨hl, hok⟩ := few_ok hf hi
    have HOk := Lib.hid hok
    have HAc := Lib.hid hA
    have HT := Lib.hid hT
    obtain ⟨e1, e2⟩ := size_of hn
    have hcv : IntKind.i64.wrap (n : Int) = (n : Int) := IntWalk.i64_in _ (by omega)
    have hmod := Nat.mod_lt n (show 0 < 45 by omega)
    have HPr := Lib.hid (fun W hb => pair_l (16 + n % 45) (by omega) (by omega) w W hb)
    rw [show ((16 + n % 45 : Nat) : Int) = 16 + (n : Int) % 45 by omega] at HPr e2
    rw [show ((n % 45 : Nat) : Int) = (n : Int) % 45 by omega] at e1 e2
    generalize 16 + n % 45 = sz at HPr
    clear hf hA hi hok hmod hn hT
    go_enter Tryz.func5, Tryz.ntmps5
    go_wp2_with fail
    refine HFw.out.mono ?_
    rintro e w1 ⟨rfl, hb1⟩
    have HP1 := Lib.hid (HPr.out w1 hb1)
    clear hb1
    go_upto_region 3 with fail
    go_wp2_with fail
    refine HP1.out.mono ?_
    rintro e w2 ⟨lb, ka, kb, rfl, hst2⟩
    obtain ⟨A, B, hL2, L2⟩ := hst2.ex
    have HOp := Lib.hid (open2_w w2 ka kb (some A) (some B) hL2.st L2.bgH)
    rw [L2.begin] at HOp
    have HS2 := Lib.hid hst2
    have HL2 := Lib.hid (And.intro hL2 L2)
    clear hst2 HP1 HPr hL2 L2
    go_wp2_with fail
    refine HOp.out.mono ?_
    rintro e w3 ⟨rfl, hL3, ho3⟩
    have HS3 := Lib.hid (show ShSt w lb w2.heap.size ka kb sz (freshH sz) [] w3 from by
      have ho : Only (ka.s ++ kb.s) w2 w3 := ho3
      exact ⟨⟨A, B, hL3.twin (ho.heap HL2.out.1.row (fun hm => (List.mem_append.1 hm).elim HL2.out.1.lbn.1 HL2.out.1.lbn.2)) rfl rfl HL2.out.1.lbn, hL3, HL2.out.2⟩, rfl, HS2.out.bel' ho, HS2.out.lo.1, HS2.out.lo.2, HS2.out.bel.size⟩)
    clear hL3 ho3 HOp
    generalize w2.heap.size = mb at HS3 ⊢
    go_wp2_with fail
    go_loopw [49] (fun k wr => ∃ (j : Nat) (h : Hw) (R : List Rc), j ≤ l.length ∧ k = .int .i64 j ∧ ShSt w lb mb ka kb sz h R wr) (fun k _ => l.length - (intOf k).toNat)
    case atStart => exact ⟨0, _, _, by omega, rfl, HS3.out⟩
    case round =>
      obtain ⟨j, h, R, hj, rfl, hst⟩ := hrel
      have HS := Lib.hid hst
      by_cases hlt : j < l.length
      · have jI : (j : Int) < (l.length : Int) := by omega
        obtain ⟨b, off, rfl, hbb, hat⟩ := HAc.out.get hlt
        have ld := (hat.below hst.bel hbb).load
        have hch := (HAc.out.chs _ (List.getElem_mem hlt)).1
        have hxo := HOk.out _ (List.getElem_mem hlt)
        generalize l[j] = x at ld hch hxo
        obtain ⟨w4, st4, hw4, hb4⟩ := put_ac wr x
        have hs4 := hst.below hb4
        have HDl := Lib.hid (do_l hs4.left x hxo hch)
        have HDr := Lib.hid (do_l hs4.swap.left x hxo hch)
        have HS4 := Lib.hid hs4
        have lc4 := loadAc_at hw4 rfl
        have HTj : j < T.length → ∃ tb tq, ta = some ⟨tb, tq, none⟩ ∧ w4.cell? ⟨tb, tq + j, none⟩ = some (.bool (T[j]?.getD false)) := fun h => by
          obtain ⟨tb, tq, e, hlt2, hc⟩ := HT.out (fun e => by rw [e] at h; simp at h)
          refine ⟨tb, tq, e, ?_⟩
          rw [hs4.bel.cell (p := ⟨tb, tq + j, none⟩) hlt2, hc j h, List.getElem?_eq_getElem h]
          rfl
        obtain ⟨xc, hxc⟩ : ∃ xc, xc = x.cs := ⟨_, rfl⟩
        rw [← hxc] at ld st4 lc4 HDl HDr
        have key : ∀ W g S, ShSt w lb mb ka kb sz g S W → Hid (Calls Tryz.prog 23 #[.pointer (some ⟨lb, 0, none⟩), .pointer (some ⟨mb, 0, none⟩)] W fun e w' => e = .returned (.bool true) ∧ ShSt w lb mb ka kb sz g S w') := fun W g S s => alike_l s
        have HKey := Lib.hid key
        clear hst hat hch hxo hw4 hb4 hxc hbb hs4 key
        by_cases hjt : j < T.length
        · have jt : (j : Int) < (T.length : Int) := by omega
          obtain ⟨tb, tq, rfl, hct⟩ := HTj hjt
          clear hjt HTj
          generalize T[j]?.getD false = tj at hct
          cases tj with
          | true =>
            go_wp2_with fail
            refine HDr.out.mono ?_
            rintro e w5 ⟨g, S, m, v, X, er, rfl, hst5, -, -, ho5⟩
            have HS5 := Lib.hid (HS4.out.swap.step hst5 ho5).swap
            have HAl := HKey.out _ _ _ HS5.out
            clear hst5 ho5 HDl HDr ld st4 lc4
            go_wp2_with fail
            refine HAl.out.mono ?_
            rintro e w6 ⟨rfl, hs6⟩
            have HS6 := Lib.hid hs6
            clear hs6 HAl
            go_wp2_with fail
            go_roundw
            case rel => exact ⟨j + 1, g, S, by omega, by go_num, HS6.out⟩
            case measure => simp [intOf]; omega
          | false =>
            go_wp2_with fail
            refine HDl.out.mono ?_
            rintro e w5 ⟨g, S, m, v, X, er, rfl, hst5, -, -, ho5⟩
            have HS5 := Lib.hid (HS4.out.step hst5 ho5)
            have HAl := HKey.out _ _ _ HS5.out
            clear hst5 ho5 HDl HDr ld st4 lc4
            go_wp2_with fail
            refine HAl.out.mono ?_
            rintro e w6 ⟨rfl, hs6⟩
            have HS6 := Lib.hid hs6
            clear hs6 HAl
            go_wp2_with fail
            go_roundw
            case rel => exact ⟨j + 1, g, S, by omega, by go_num, HS6.out⟩
            case measure => simp [intOf]; omega
        · have jt : ¬ (j : Int) < (T.length : Int) := by omega
          clear hjt HTj
          go_wp2_with fail
          refine HDl.out.mono ?_
          rintro e w5 ⟨g, S, m, v, X, er, rfl, hst5, -, -, ho5⟩
          have HS5 := Lib.hid (HS4.out.step hst5 ho5)
          have HAl := HKey.out _ _ _ HS5.out
          clear hst5 ho5 HDl HDr ld st4 lc4
          go_wp2_with fail
          refine HAl.out.mono ?_
          rintro e w6 ⟨rfl, hs6⟩
          have HS6 := Lib.hid hs6
          clear hs6 HAl
          go_wp2_with fail
          go_roundw
          case rel => exact ⟨j + 1, g, S, by omega, by go_num, HS6.out⟩
          case measure => simp [intOf]; omega
      · have jI : ¬ (j : Int) < (l.length : Int) := by omega
        have HAw := Lib.hid (awake48_w wr)
        have HB := Lib.hid hst.bel
        clear hst
        go_wp2_with fail
        refine HAw.out.mono ?_
        rintro e w7 ⟨rfl, hb7⟩
        have HB7 := Lib.hid (HB.out.trans (hb7.mono HB.out.size))
        clear hb7
        go_wp2_with fail
        go_ret
        exact ⟨rfl, HB7.out⟩
end
end Go.Proofs.YtjpkdhnponcciaaGreatDoor

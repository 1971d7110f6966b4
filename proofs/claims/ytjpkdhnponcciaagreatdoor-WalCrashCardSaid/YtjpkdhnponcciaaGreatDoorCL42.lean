/-
  The calls of a log that stands, with the sizes of its stores. Condition: the log and its copies lie in memory.
-/
import Derived.Test.YtjpkdhnponcciaaGreatDoorCR
namespace Go.Proofs.YtjpkdhnponcciaaGreatDoor
open Go.RowKit Go.Sort

/-- Of the same size. -/
def LnC (c d : Cp) : Prop := d.map (fun M => M.secs.length) = c.map (fun M => M.secs.length)
theorem LnC.trans {a b c : Cp} (h : LnC a b) (k : LnC b c) : LnC a c := Eq.trans k h
theorem LnC.of {M N : Mm} (h : LnC (some M) (some N)) : N.secs.length = M.secs.length := Option.some.inj h
theorem wrsV_len : ∀ (f : Nat) (M : Mm) (l : List (Nat × By)), (wrsV f M l).2.secs.length = M.secs.length
  | 0, M, l => rfl
  | f + 1, M, l => by
    unfold wrsV
    split
    · rfl
    · simp only
      split
      · exact wr_len _ _
      · rw [wrsV_len f, wr_len]
theorem wrs_len (M : Mm) (l : List (Nat × By)) : (M.wrs l).2.secs.length = M.secs.length := wrsV_len _ _ _
theorem dupV_len (T F : Mm) (h : Hw) : (dupV T F h).2.secs.length = T.secs.length := by
  unfold dupV
  simp only
  split
  · exact wrs_len _ _
  · rw [wr_len, wrs_len]
theorem LnC.dup (T F : Mm) (h : Hw) : LnC (some T) (some (dupV T F h).2) := congrArg some (dupV_len T F h)
theorem beginV_ln (A B : Cp) : LnC A (beginV A B).a ∧ LnC B (beginV A B).b := by
  have hA : ∀ x, LnC A (bgA A B x).a ∧ LnC B (bgA A B x).b := fun x => by
    cases A <;> cases B <;> first | exact ⟨rfl, rfl⟩ | exact ⟨rfl, LnC.dup _ _ _⟩
  have hB : ∀ x, LnC A (bgB A B x).a ∧ LnC B (bgB A B x).b := fun x => by
    cases A <;> cases B <;> first | exact ⟨rfl, rfl⟩ | exact ⟨LnC.dup _ _ _, rfl⟩
  unfold beginV
  split
  · exact ⟨rfl, rfl⟩
  · split
    · exact ⟨rfl, rfl⟩
    · exact hA _
    · exact hB _
    · split
      · exact hA _
      · split
        · exact hB _
        · exact ⟨rfl, rfl⟩
theorem eachV_ln (f : Mm → Int × Mm) (hf : ∀ M, (f M).2.secs.length = M.secs.length) (A B : Cp) : LnC A (eachV f A B).2.1 ∧ LnC B (eachV f A B).2.2 := by
  have hs : ∀ M, LnC (some M) (some (f M).2) := fun M => congrArg some (hf M)
  cases A with
  | none =>
    cases B with
    | none => exact ⟨rfl, rfl⟩
    | some N => exact ⟨rfl, hs N⟩
  | some M =>
    unfold eachV
    simp only
    split
    · exact ⟨hs M, rfl⟩
    · cases B with
      | none => exact ⟨hs M, rfl⟩
      | some N => exact ⟨hs M, hs N⟩
theorem addM_len (h : Hw) (r : Rc) (M : Mm) : (addM h r M).2.secs.length = M.secs.length := by
  unfold addM
  simp only
  split
  · exact wrs_len _ _
  · rw [wr_len, wrs_len]
theorem appendV_ln (A B : Cp) (unit : Int) (l : List Ch) : LnC A (appendV A B unit l).2.1 ∧ LnC B (appendV A B unit l).2.2 := by
  obtain ⟨h1, h2⟩ := beginV_ln A B
  unfold appendV
  simp only
  split
  · exact ⟨h1, h2⟩
  · split
    · exact ⟨h1, h2⟩
    · split
      · exact ⟨h1, h2⟩
      · split
        · exact ⟨h1, h2⟩
        · obtain ⟨k1, k2⟩ := eachV_ln (addM (beginV A B).h ⟨(beginV A B).h.next, unit, l⟩) (addM_len _ _) (beginV A B).a (beginV A B).b
          exact ⟨h1.trans k1, h2.trans k2⟩
theorem trimV_ln (A B : Cp) (u : Int) : LnC A (trimV A B u).2.1 ∧ LnC B (trimV A B u).2.2 := by
  obtain ⟨h1, h2⟩ := beginV_ln A B
  unfold trimV
  simp only
  split
  · exact ⟨h1, h2⟩
  · split
    · exact ⟨h1, h2⟩
    · split
      · exact ⟨h1, h2⟩
      · obtain ⟨k1, k2⟩ := eachV_ln (fun M => M.wr [(0, (restW (beginV A B).h (walkV (beginV A B).a (beginV A B).b (beginV A B).h fun r => decide (r.last ≤ u)).1).s)]) (fun M => wr_len _ _) (beginV A B).a (beginV A B).b
        exact ⟨h1.trans k1, h2.trans k2⟩
theorem append_l2 {w : World} {lb : Nat} {ka kb : Bk} {A B : Cp} {h : Hw} {R : List Rc} (hL : LgAt w lb ka kb A B) (L : Log A B h R) (unit : Int) (a : Option Addr) (cap : Nat) (l : List Ch) (hC : ChsF w (fS ka kb A B) a l) (hll : l.length ≤ 1000000) (hc : ∀ c ∈ l, ChLen c) :
    Calls Tryz.prog 38 #[.pointer (some ⟨lb, 0, none⟩), .int .i64 unit, .slice a l.length cap] w fun e w' => ∃ A' B' g S n er, e = .returned (.tuple #[.int .i64 n, .int .i64 er]) ∧ LgAt w' lb ka kb A' B' ∧ Log A' B' g S ∧
      (n, er) = (if (Rc.mk h.next unit l).sound = false then (0, 1) else if 16384 < (Rc.mk h.next unit l).b.length then (0, 8) else if h.free < cntW (Rc.mk h.next unit l).b.length then (0, 14) else ((h.next : Int), 0)) ∧ g.n = h.n ∧ g.first = h.first ∧
      (g, S) = (if (Rc.mk h.next unit l).valid = true ∧ cntW (Rc.mk h.next unit l).b.length ≤ h.free then (h.more ⟨h.next, unit, l⟩, R ++ [⟨h.next, unit, l⟩]) else (h, R)) ∧ (A'.isNone = A.isNone ∧ LnC A A') ∧ (B'.isNone = B.isNone ∧ LnC B B') ∧ Only (fS ka kb A B) w w' := by
  have := append_w w lb ka kb A B unit a cap 0 l hL L.bgH (fun _ => by rw [L.begin]; exact L.fit) hC hll hc
  obtain ⟨A', B', g, S, e1, h1, h2, h3, h4, h5, h6⟩ := L.append unit l
  have hln := appendV_ln A B unit l
  rw [e1] at this hln
  exact this.mono (fun e w' k => ⟨A', B', g, S, _, _, k.1, k.2.1, h1, rfl, h2, h3, h4, ⟨h5, hln.1⟩, ⟨h6, hln.2⟩, k.2.2⟩)
theorem trim_l2 {w : World} {lb : Nat} {ka kb : Bk} {A B : Cp} {h : Hw} {R : List Rc} (hL : LgAt w lb ka kb A B) (L : Log A B h R) (upto : Int) (hu : I64 upto) : Calls Tryz.prog 39 #[.pointer (some ⟨lb, 0, none⟩), .int .i64 upto] w fun e w' =>
    ∃ A' B' g, e = .returned (.int .i64 0) ∧ LgAt w' lb ka kb A' B' ∧ Log A' B' g (R.dropWhile fun r => decide (r.last ≤ upto)) ∧ g.n = h.n ∧ g.next = h.next ∧ (A'.isNone = A.isNone ∧ LnC A A') ∧ (B'.isNone = B.isNone ∧ LnC B B') ∧ Only (fS ka kb A B) w w' := by
  have := trim_w w lb ka kb A B upto hu hL L.bgH (fun _ => by rw [L.begin]; exact L.fit) (fun _ => by rw [L.begin]; exact L.cutT _) (fun _ => by rw [L.begin]; exact L.cutO _)
  obtain ⟨A', B', g, e1, h1, h2, h3, h4, h5⟩ := L.trim upto
  have hln := trimV_ln A B upto
  rw [e1] at this hln
  exact this.mono (fun e w' k => ⟨A', B', g, k.1, k.2.1, h1, h2, h3, ⟨h4, hln.1⟩, ⟨h5, hln.2⟩, k.2.2⟩)
section
attribute [local go_sem ↓] loadLr_down storeLr_down loadAc_down storeAc_down
set_option maxRecDepth 100000 in
set_option maxHeartbeats 4000000 in
theorem do_w2 {w : World} {lb : Nat} {ka kb : Bk} {A B : Cp} {h : Hw} {R : List Rc} (hL : LgAt w lb ka kb A B) (L : Log A B h R) (x : AcV) (hi : I64 x.kind ∧ I64 x.n) (hC : ChsF w (fS ka kb A B) x.a x.l) (hll : x.l.length ≤ 1000000) (hc : ∀ c ∈ x.l, ChLen c) :
    Calls Tryz.prog 15 #[.pointer (some ⟨lb, 0, none⟩), .agg x.cs] w fun e w' => ∃ A' B' g S n v X er, e = .returned (.tuple #[.int .i64 n, v, .int .i64 er]) ∧ LgAt w' lb ka kb A' B' ∧ Log A' B' g S ∧ DoR h R x g S n (X.map Lr.rc) er ∧ LrsAt w' w.heap.size v X ∧
      (A'.isNone = A.isNone ∧ LnC A A') ∧ (B'.isNone = B.isNone ∧ LnC B B') ∧ Only (fS ka kb A B) w w' := by
  obtain ⟨w1, hw1⟩ : ∃ w1, w1 = w.alloc (.cells x.cs 35) := ⟨_, rfl⟩
  have hg1 : w1.heap[w.heap.size]? = some (.cells x.cs 35 (0, 0)) := by rw [hw1]; exact heap_alloc_new _ _
  have hb1 : Below w.heap.size w w1 := by rw [hw1]; exact box_below0 _ _ _
  have HL1 := Lib.hid (hL.below hb1)
  have HC1 := Lib.hid (hC.below hb1)
  have HB1 := Lib.hid hb1
  have HLL := Lib.hid hll
  have HCl := Lib.hid hc
  have HW := Lib.hid hw1
  obtain ⟨kind, num, unit, a, cap, l⟩ := x
  simp only at hi HC1 HLL HCl
  have c0 : w1.cell? ⟨w.heap.size, 0, none⟩ = some (.int .i64 kind) := cell_at hg1 rfl
  have c1 : w1.cell? ⟨w.heap.size, 1, none⟩ = some (.int .i64 num) := cell_at hg1 rfl
  have c2 : w1.cell? ⟨w.heap.size, 2, none⟩ = some (.int .i64 unit) := cell_at hg1 rfl
  have c3 : w1.cell? ⟨w.heap.size, 3, none⟩ = some (.slice a l.length cap) := cell_at hg1 rfl
  have hw3 : IntKind.i64.wrap (kind.tmod 3) = kind.tmod 3 := by
    have h1 := Int.tmod_lt_of_pos kind (show (0 : Int) < 3 by omega)
    have h2 : -3 < kind.tmod 3 := by
      rcases Int.le_total 0 kind with h | h
      · have := Int.tmod_nonneg 3 h; omega
      · have e : kind.tmod 3 = -((-kind).tmod 3) := by rw [Int.neg_tmod]; omega
        have := Int.tmod_lt_of_pos (-kind) (show (0 : Int) < 3 by omega)
        omega
    exact IntWalk.i64_in _ (by omega)
  clear hw1 hg1 hb1 hL hC hll hc
  by_cases h1 : kind.tmod 3 = 1
  · have HT := Lib.hid (trim_l2 HL1.out L num hi.2)
    have HQ := Lib.hid h1
    go_enter Tryz.func15, Tryz.ntmps15
    go_upto_region 1 with fail
    rw [← HW.out]
    go_wp2_with fail
    refine HT.out.mono ?_
    rintro e w2 ⟨A', B', g, rfl, hL2, L2, hn, hx, na, nb, ho⟩
    have HR := Lib.hid (And.intro hL2 (And.intro L2 (And.intro (And.intro hn hx) (And.intro (And.intro na nb) ho))))
    clear hL2 L2 hn hx na nb ho
    go_wp2_with fail
    refine bodyPost_ret (v := .tuple #[.int .i64 0, .slice none 0 0, .int .i64 0]) (by simp [results, Tryz.f15, go_sem]) rfl ?_
    obtain ⟨r1, r2, ⟨r3, r4⟩, ⟨r5, r6⟩, r7⟩ := HR.out
    exact ⟨A', B', g, _, 0, _, [], 0, rfl, r1, r2, Or.inl ⟨HQ.out, rfl, rfl, rfl, rfl, r3, r4⟩, LrsAt.nil _ _, r5, r6, (Only.of_below (S := fS ka kb A B) HB1.out).trans r7⟩
  · by_cases h2 : kind.tmod 3 = 2
    · have HT := Lib.hid (read_l HL1.out L num hi.2)
      have HQ := Lib.hid h2
      obtain ⟨er, her⟩ : ∃ er : Int, er = (if max num 1 < (h.first : Int) then 18 else 0) := ⟨_, rfl⟩
      obtain ⟨XX, hXX⟩ : ∃ XX : List Rc, XX = (if max num 1 < (h.first : Int) then [] else keepR num R) := ⟨_, rfl⟩
      rw [← her, ← hXX] at HT
      have HE := Lib.hid (And.intro her hXX)
      clear her hXX
      go_enter Tryz.func15, Tryz.ntmps15
      go_upto_region 1 with fail
      rw [← HW.out]
      go_wp2_with fail
      refine HT.out.mono ?_
      rintro e w2 ⟨⟨v, X, rfl, hX, hrow⟩, hL2, ho⟩
      have HR := Lib.hid (And.intro hL2 (And.intro ho (And.intro hX hrow)))
      clear hL2 ho hX hrow
      go_wp2_with fail
      refine bodyPost_ret (v := .tuple #[.int .i64 0, v, .int .i64 er]) (by simp [results, Tryz.f15, go_sem]) rfl ?_
      obtain ⟨r1, r2, r3, r4⟩ := HR.out
      exact ⟨A, B, h, R, 0, v, X, er, rfl, r1, L, Or.inr (Or.inl ⟨HQ.out, rfl, rfl, rfl, HE.out.1, r3.trans HE.out.2⟩), r4.mono HB1.out.size, ⟨rfl, rfl⟩, ⟨rfl, rfl⟩, (Only.of_below (S := fS ka kb A B) HB1.out).trans r2⟩
    · have HT := Lib.hid (append_l2 HL1.out L unit a cap l HC1.out HLL.out HCl.out)
      have HQ := Lib.hid (And.intro h1 h2)
      go_enter Tryz.func15, Tryz.ntmps15
      go_upto_region 1 with fail
      rw [← HW.out]
      go_wp2_with fail
      refine HT.out.mono ?_
      rintro e w2 ⟨A', B', g, S, n, er, rfl, hL2, L2, hR⟩
      have HR := Lib.hid (And.intro hL2 (And.intro L2 hR))
      clear hL2 L2 hR
      go_wp2_with fail
      refine bodyPost_ret (v := .tuple #[.int .i64 n, .slice none 0 0, .int .i64 er]) (by simp [results, Tryz.f15, go_sem]) rfl ?_
      obtain ⟨r1, r2, r3, r4, r5, r6, r7, r8, r9⟩ := HR.out
      exact ⟨A', B', g, S, n, _, [], er, rfl, r1, r2, Or.inr (Or.inr ⟨HQ.out.1, HQ.out.2, rfl, r3, r4, r5, r6⟩), LrsAt.nil _ _, r7, r8, (Only.of_below (S := fS ka kb A B) HB1.out).trans r9⟩
end
/-- The log of a law, its stores named. -/
structure LawAB (w : World) (lb : Nat) (ka kb : Bk) (n : Nat) (h : Hw) (R : List Rc) (A B : Mm) (W : World) : Prop where
  lg : LgAt W lb ka kb (some A) (some B)
  log : Log (some A) (some B) h R
  ln : A.secs.length = n ∧ B.secs.length = n
  n : h.n = n
  bel : Below w.heap.size w W
  lo : (∀ x, x ∈ ka.s ∨ x ∈ kb.s → w.heap.size ≤ x) ∧ w.heap.size ≤ lb
theorem LawAB.below {w W W' : World} {lb : Nat} {ka kb : Bk} {n : Nat} {h : Hw} {R : List Rc} {A B : Mm} (s : LawAB w lb ka kb n h R A B W) (hb : Below W.heap.size W W') : LawAB w lb ka kb n h R A B W' :=
  ⟨s.lg.below hb, s.log, s.ln, s.n, s.bel.trans (hb.mono s.bel.size), s.lo⟩
theorem LawAB.bel' {w W W' : World} {lb : Nat} {ka kb : Bk} {n : Nat} {h : Hw} {R : List Rc} {A B : Mm} (s : LawAB w lb ka kb n h R A B W) (ho : Only (ka.s ++ kb.s) W W') : Below w.heap.size w W' :=
  s.bel.trans (ho.below s.bel.size (fun x hx => s.lo.1 x (List.mem_append.1 hx)))
theorem pair_ab (n : Nat) (h1 : 16 ≤ n) (h2 : n ≤ 4096) (w W : World) (hw : Below w.heap.size w W) : Calls Tryz.prog 13 #[.int .i64 n] W fun e w' =>
    ∃ (lb : Nat) (ka kb : Bk) (A B : Mm), e = .returned (.tuple #[memV ka.p, memV kb.p, .pointer (some ⟨lb, 0, none⟩), .bool true]) ∧ LawAB w lb ka kb n (freshH n) [] A B w' := by
  refine (pair_w n h1 h2 W).mono ?_
  rintro e w' ⟨lb, ka, kb, A, B, rfl, hL, L, ha, hb', hlo, hlb, hb⟩
  have := hw.size
  exact ⟨lb, ka, kb, A, B, rfl, hL, L, ⟨ha, hb'⟩, rfl, hw.trans (hb.mono hw.size), fun x hx => by have := hlo x hx; omega, by omega⟩
theorem do_ab {w W : World} {lb : Nat} {ka kb : Bk} {n : Nat} {h : Hw} {R : List Rc} {A B : Mm} (s : LawAB w lb ka kb n h R A B W) (x : AcV) (ok : AcOk x) (hC : Chs w w.heap.size x.a x.l) :
    Calls Tryz.prog 15 #[.pointer (some ⟨lb, 0, none⟩), .agg x.cs] W fun e w' => ∃ g S A' B' m v er, e = .returned (.tuple #[.int .i64 m, v, .int .i64 er]) ∧ LawAB w lb ka kb n g S A' B' w' ∧ Only (ka.s ++ kb.s) W w' := by
  refine (do_w2 s.lg s.log x ok.i64 (ChsF.of_chs (hC.below s.bel) s.bel.size (fun y hy => s.lo.1 y (fS_mem hy))) ok.len ok.ch).mono ?_
  rintro e w' ⟨A', B', g, S, m, v, X, er, rfl, hL', L', hd, hr, ⟨na, la⟩, ⟨nb, lb'⟩, ho⟩
  obtain ⟨M, rfl⟩ := some_of na
  obtain ⟨N, rfl⟩ := some_of nb
  have hgn : g.n = h.n := by
    rcases hd with ⟨_, _, _, _, _, h1, _⟩ | ⟨_, _, rfl, _⟩ | ⟨_, _, _, _, h1, _⟩
    · exact h1
    · rfl
    · exact h1
  exact ⟨g, S, M, N, m, v, er, rfl, ⟨hL', L', ⟨by rw [la.of, s.ln.1], by rw [lb'.of, s.ln.2]⟩, by rw [hgn, s.n], s.bel' ho, s.lo⟩, ho⟩
theorem whole_ab {w W : World} {lb : Nat} {ka kb : Bk} {n : Nat} {h : Hw} {R : List Rc} {A B : Mm} (s : LawAB w lb ka kb n h R A B W) :
    Calls Tryz.prog 19 #[.pointer (some ⟨lb, 0, none⟩)] W fun e w' => ∃ v X, e = .returned (.tuple #[.int .i64 h.first, .int .i64 h.next, .int .i64 h.free, v, .bool true]) ∧ X.map Lr.rc = R ∧ LrsAt w' W.heap.size v X ∧ LawAB w lb ka kb n h R A B w' ∧ Only (ka.s ++ kb.s) W w' := by
  refine (whole_w s.lg s.log).mono ?_
  rintro e w' ⟨v, X, rfl, hX, hr, hL', ho⟩
  exact ⟨v, X, rfl, hX, hr, ⟨hL', s.log, s.ln, s.n, s.bel' ho, s.lo⟩, ho⟩
end Go.Proofs.YtjpkdhnponcciaaGreatDoor

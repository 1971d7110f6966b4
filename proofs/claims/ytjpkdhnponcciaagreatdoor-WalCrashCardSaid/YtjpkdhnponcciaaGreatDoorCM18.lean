/-
  Walks: an append that may end at any write; the log is opened behind it. Condition: the log and its copies lie in memory, and hold the log.
-/
import Derived.Test.YtjpkdhnponcciaaGreatDoorCM16
import Derived.Test.YtjpkdhnponcciaaGreatDoorCP10
import Derived.Test.YtjpkdhnponcciaaGreatDoorCM11
namespace Go.Proofs.YtjpkdhnponcciaaGreatDoor
open Go.RowKit Go.Sort

theorem encAc : Enc Tryz.prog (fun x : AcV => x.cs) 22 35 4 := by
  obtain ⟨i, h1, h2, h3, h4⟩ := info_parts (show (Tryz.prog.info? 35).map (fun i => (i.zero, i.size, i.bytes)) = some (some (.agg #[.int .i64 0, .int .i64 0, .int .i64 0, .slice none 0 0]), 4, 48) by kernel_rfl)
  exact ⟨Tryz.underlying22, ⟨i, _, h1, h2, h3, by omega, rfl, by omega⟩, fun _ => rfl, fun x u hu => by simp at hu; rcases hu with rfl | rfl | rfl | rfl <;> rfl⟩
abbrev AcRow (w : World) (base : Nat) (v : Value) (l : List AcV) : Prop := RowE (fun x : AcV => x.cs) 35 4 w base v l
section
variable {α : Type} {P : Program} {enc : α → Array Value} {t e : TypeId} {z : Nat}
theorem run_append_big (E : Enc P enc t e z) {bytes : Nat} (hby : (P.info? e).map (·.bytes) = some bytes) (w : World) (base : Nat) (ty : TypeId) (v : Value) (l m : List α) (a : Option Addr) (cap : Nat) (hown : RowE enc e z w base v l) (hm : NewsE enc w a cap m) (hmax : l.length + m.length ≤ maxLen) (hlen : (l.length + m.length) * bytes ≤ 140737488355328) (hbase : base ≤ w.heap.size) :
    ∃ v' w', (Builtin.append_ #[t, t] ty #[v, .slice a m.length cap]).run P w = .ok v' w' ∧ RowE enc e z w' base v' (l ++ m) ∧ w.grownBy w' v.ownBlock := by
  obtain ⟨i, zv, hi, hz, hs, _, hzs, h0⟩ := E.hi
  have hib : i.bytes = bytes := by rw [hi] at hby; exact Option.some.inj hby
  rcases hm with ⟨p, rfl, hc⟩ | ⟨rfl, rfl, rfl⟩
  · obtain ⟨v', w', h1, h2, h3, _, _⟩ := run_append_own_at (P := P) (w := w) base t ty e i zv z i.bytes E.ht hi hz hs rfl hzs h0 v l.length (flatE enc l) hown p m.length cap (flatE enc m) (flatE_len E m) hc (fun u hu => by
        unfold flatE at hu
        obtain ⟨x, _, hx⟩ := List.mem_flatMap.1 hu
        exact E.one x u hx) hmax (by rw [hib]; exact hlen) hbase
    refine ⟨v', w', h1, ?_, h3⟩
    show w'.ownsRow base e z v' (l ++ m).length (flatE enc (l ++ m))
    rw [List.length_append, flatE_app]
    exact h2
  · refine ⟨v, w, run_append_owned_none (P := P) w base t ty e i z E.ht hi v l.length (flatE enc l) hown, by rw [List.append_nil]; exact hown, ⟨rfl, rfl, rfl, Nat.le_refl _, fun _ _ _ => rfl⟩⟩
theorem wpList_append_big {ops : Array Oper} {rest : List Oper} {o : Oper} {a : Act} {Q : Exit → Act → World → Prop} {w : World} (hgd : o.guard = none) (s x : Operand) (ho : o.op = .call { callee := .builtin .append, args := #[s, x], argTypes := #[t, t] }) (E : Enc P enc t e z) {bytes : Nat} (hby : (P.info? e).map (·.bytes) = some bytes)
    (base : Nat) (v : Value) (l m : List α) (ad : Option Addr) (cap : Nat) (hs : a.eval s = v) (hown : RowE enc e z w base v l) (hx : a.eval x = .slice ad m.length cap) (hm : NewsE enc w ad cap m) (hmax : l.length + m.length ≤ maxLen) (hlen : (l.length + m.length) * bytes ≤ 140737488355328) (hbase : base ≤ w.heap.size)
    (h : ∀ v' w', RowE enc e z w' base v' (l ++ m) → w.grownBy w' v.ownBlock → wpList P ops Q rest (a.put o.dst v') w') : wpList P ops Q (o :: rest) a w := by
  refine wpList_plain hgd fun K hK => ?_
  obtain ⟨v', w', hr, h2, h3⟩ := run_append_big E hby w base o.type v l m ad cap hown hm hmax hlen hbase
  unfold Oper.wp execOp
  simp only [ho, resolve, invoke, builtin, Sem.run_bind, Sem.run_pure, Result.andThen_ok, List.map_toArray, List.map_cons, List.map_nil, hs, hx, hr]
  exact hK _ _ (h v' w' h2 h3)
end
theorem Acts.news {w : World} {B : Nat} {a : Option Addr} {cap : Nat} {l : List AcV} (h : Acts w B a l) (hn : a = none → cap = 0) : NewsE (fun x : AcV => x.cs) w a cap l :=
  NewsE.of encAc hn (fun hl => by
    obtain ⟨b, off, rfl, _, hc⟩ := h.cells hl
    refine ⟨b, off, rfl, fun i hi j u hu => ?_⟩
    rw [← Nat.add_assoc]
    exact hc i hi j u (by simpa using hu))
theorem acrow_one {w : World} {base g : Nat} {x : AcV} (hg : w.heap[g]? = some (.cells x.cs 35 (0, 0))) (hb : base ≤ g) : AcRow w base (.slice (some ⟨g, 0, none⟩) 1 1) [x] :=
  ⟨rfl, Or.inr ⟨g, 1, x.cs, rfl, hb, hg, Nat.le_refl _, by decide, rfl, by simp [flatE]⟩⟩
theorem Acts.of_row {w : World} {base : Nat} {v : Value} {L : List AcV} (h : AcRow w base v L) (hc : ∀ x ∈ L, Chs w w.heap.size x.a x.l ∧ x.l.length ≤ x.cap ∧ x.cap ≤ maxLen) : ∃ a cap, v = .slice a L.length cap ∧ Acts w w.heap.size a L := by
  obtain ⟨a, cap, e, q1, q2, h2⟩ := h.cells encAc
  refine ⟨a, cap, e, ⟨fun hl => ?_, hc⟩⟩
  obtain ⟨g, rfl, _, _, h4, h5⟩ := h2 hl
  exact ⟨g, 0, rfl, h4, fun i hi j v hj => by rw [Nat.zero_add]; exact h5 i hi j v (by simpa using hj)⟩

/-! ### Fuses -/
theorem LgAt.lit {w : World} {lb : Nat} {ka kb : Bk} {A B : Mm} (h : LgAt w lb ka kb (some A) (some B)) (f g : Int) (hf : -1 ≤ f ∧ f ≤ 100) (hg : -1 ≤ g ∧ g ≤ 100) :
    LgAt ((w.setCell ⟨ka.p, 2, none⟩ (.int .i64 f)).setCell ⟨kb.p, 2, none⟩ (.int .i64 g)) lb ka kb (some (A.lit f)) (some (B.lit g)) ∧ Only (ka.s ++ kb.s) w ((w.setCell ⟨ka.p, 2, none⟩ (.int .i64 f)).setCell ⟨kb.p, 2, none⟩ (.int .i64 g)) := by
  have hpa : ka.p ∈ ka.s := by simp
  have hpb : kb.p ∈ kb.s := by simp
  have o1 : Only [ka.p] w (w.setCell ⟨ka.p, 2, none⟩ (.int .i64 f)) := (Only.refl _ _).setCell (Or.inl (by simp)) _
  have o2 : Only [kb.p] (w.setCell ⟨ka.p, 2, none⟩ (.int .i64 f)) ((w.setCell ⟨ka.p, 2, none⟩ (.int .i64 f)).setCell ⟨kb.p, 2, none⟩ (.int .i64 g)) := (Only.refl _ _).setCell (Or.inl (by simp)) _
  have n1 : ∀ {y : Nat}, y ≠ ka.p → y ∉ [ka.p] := fun h hm => h (List.mem_singleton.1 hm)
  have n2 : ∀ {y : Nat}, y ≠ kb.p → y ∉ [kb.p] := fun h hm => h (List.mem_singleton.1 hm)
  have a1 : MmAt (w.setCell ⟨ka.p, 2, none⟩ (.int .i64 f)) ka (A.lit f) := (h.a A rfl).fuse f hf
  have b1 : MmAt (w.setCell ⟨ka.p, 2, none⟩ (.int .i64 f)) kb B := (h.b B rfl).only o1 (fun x hx hm => h.dis ka.p hpa (by rw [← List.mem_singleton.1 hm]; exact hx))
  refine ⟨⟨?_, fun M e => ?_, fun M e => ?_, h.dis, fun x hx => by simpa using h.lt x hx, h.lbn⟩, (o1.mono (fun x hx _ => by rw [List.mem_singleton] at hx; subst hx; exact List.mem_append_left _ hpa)).trans (o2.mono (fun x hx _ => by rw [List.mem_singleton] at hx; subst hx; exact List.mem_append_right _ hpb))⟩
  · exact o2.heap (o1.heap h.row (n1 (fun e => h.lbn.1 (e ▸ hpa)))) (n2 (fun e => h.lbn.2 (e ▸ hpb)))
  · cases e
    exact a1.only o2 (fun x hx hm => h.dis x hx (by rw [List.mem_singleton.1 hm]; exact hpb))
  · cases e
    exact b1.fuse g hg
theorem bgH_two {M N : Mm} {g h : Hw} {S R : List Rc} (og : HwOk g) (oh : HwOk h) (hM : CpIs g S M) (hN : CpIs h R N) (cM : Clean M) (cN : Clean N) : BgH (some M) (some N) := by
  have h1 := hM.len
  have h2 := hN.len
  have h3 := og.n
  have h4 := oh.n
  exact ⟨fun X e => by cases e; omega, fun X e => by cases e; omega, fun X x e hx => by cases e; rw [hdC_is hM og (cM 0)] at hx; cases hx; exact h1, fun X x e hx => by cases e; rw [hdC_is hN oh (cN 0)] at hx; cases hx; exact h2⟩
/-- Append over copies whose fuses may burn. -/
theorem app_c {w : World} {lb : Nat} {ka kb : Bk} {M N : Mm} {h : Hw} {R : List Rc} (hL : LgAt w lb ka kb (some M) (some N)) (ok : LgOk h R) (hM : CpIs h R M) (hN : CpIs h R N) (cM : Clean M) (cN : Clean N) (unit : Int) (a : Option Addr) (cap : Nat) (l : List Ch) (hC : ChsF w (ka.s ++ kb.s) a l) (hll : l.length ≤ 1000000) (hc : ∀ c ∈ l, ChLen c) :
    Calls Tryz.prog 38 #[.pointer (some ⟨lb, 0, none⟩), .int .i64 unit, .slice a l.length cap] w fun e w' => ∃ M' N' m er, e = .returned (.tuple #[.int .i64 m, .int .i64 er]) ∧ LgAt w' lb ka kb (some M') (some N') ∧ Only (ka.s ++ kb.s) w w' ∧ Clean M' ∧ Clean N' ∧
      ((er ≠ 0 ∧ CpIs h R M' ∧ CpIs h R N') ∨
       ((Rc.mk h.next unit l).valid = true ∧ cntW (Rc.mk h.next unit l).b.length ≤ h.free ∧ CpIs (h.more ⟨h.next, unit, l⟩) (R ++ [⟨h.next, unit, l⟩]) M' ∧
         ((er ≠ 0 ∧ CpIs h R N') ∨ (er = 0 ∧ m = (h.next : Int) ∧ CpIs (h.more ⟨h.next, unit, l⟩) (R ++ [⟨h.next, unit, l⟩]) N')))) := by
  have hbg := begin_same ok.ok hM hN (cM 0) (cN 0)
  have := append_w w lb ka kb (some M) (some N) unit a cap 0 l hL (bgH_two ok.ok ok.ok hM hN cM cN) (fun _ => by rw [hbg]; exact ⟨ok.ok.n, fun X e => by cases e; exact hM.len, fun X e => by cases e; exact hN.len⟩) hC hll hc
  obtain ⟨M', N', m, er, e1, c1, c2, _, _, hh⟩ := crash_app ok hM hN cM cN unit l
  rw [e1] at this
  exact this.mono (fun e w' k => ⟨M', N', m, er, k.1, k.2.1, k.2.2, c1, c2, hh⟩)
section
attribute [local go_sem ↓] loadLr_down storeLr_down loadAc_down storeAc_down
set_option maxRecDepth 100000 in
set_option maxHeartbeats 4000000 in
/-- An act of kind 0, over copies whose fuses may burn. -/
theorem do_c {w : World} {lb : Nat} {ka kb : Bk} {M N : Mm} {h : Hw} {R : List Rc} (hL : LgAt w lb ka kb (some M) (some N)) (ok : LgOk h R) (hM : CpIs h R M) (hN : CpIs h R N) (cM : Clean M) (cN : Clean N) (x : AcV) (h0 : x.kind = 0) (hC : ChsF w (ka.s ++ kb.s) x.a x.l) (hll : x.l.length ≤ 1000000) (hc : ∀ c ∈ x.l, ChLen c) :
    Calls Tryz.prog 15 #[.pointer (some ⟨lb, 0, none⟩), .agg x.cs] w fun e w' => ∃ M' N' m er, e = .returned (.tuple #[.int .i64 m, .slice none 0 0, .int .i64 er]) ∧ LgAt w' lb ka kb (some M') (some N') ∧ Only (ka.s ++ kb.s) w w' ∧ Clean M' ∧ Clean N' ∧
      ((er ≠ 0 ∧ CpIs h R M' ∧ CpIs h R N') ∨
       ((Rc.mk h.next x.unit x.l).valid = true ∧ cntW (Rc.mk h.next x.unit x.l).b.length ≤ h.free ∧ CpIs (h.more ⟨h.next, x.unit, x.l⟩) (R ++ [⟨h.next, x.unit, x.l⟩]) M' ∧
         ((er ≠ 0 ∧ CpIs h R N') ∨ (er = 0 ∧ m = (h.next : Int) ∧ CpIs (h.more ⟨h.next, x.unit, x.l⟩) (R ++ [⟨h.next, x.unit, x.l⟩]) N')))) := by
  obtain ⟨w1, hw1⟩ : ∃ w1, w1 = w.alloc (.cells x.cs 35) := ⟨_, rfl⟩
  have hg1 : w1.heap[w.heap.size]? = some (.cells x.cs 35 (0, 0)) := by rw [hw1]; exact heap_alloc_new _ _
  have hb1 : Below w.heap.size w w1 := by rw [hw1]; exact box_below0 _ _ _
  have HB1 := Lib.hid hb1
  have HW := Lib.hid hw1
  have HT := Lib.hid (app_c (hL.below hb1) ok hM hN cM cN x.unit x.a x.cap x.l (hC.below hb1) hll hc)
  obtain ⟨kind, num, unit, a, cap, l⟩ := x
  simp only at h0 HT
  subst h0
  have c0 : w1.cell? ⟨w.heap.size, 0, none⟩ = some (.int .i64 0) := cell_at hg1 rfl
  have c1 : w1.cell? ⟨w.heap.size, 1, none⟩ = some (.int .i64 num) := cell_at hg1 rfl
  have c2 : w1.cell? ⟨w.heap.size, 2, none⟩ = some (.int .i64 unit) := cell_at hg1 rfl
  have c3 : w1.cell? ⟨w.heap.size, 3, none⟩ = some (.slice a l.length cap) := cell_at hg1 rfl
  clear hw1 hg1 hb1 hL hC hll hc ok hM hN cM cN
  go_enter Tryz.func15, Tryz.ntmps15
  go_upto_region 1 with fail
  rw [← HW.out]
  go_wp2_with fail
  refine HT.out.mono ?_
  rintro e w2 ⟨M', N', m, er, rfl, hR⟩
  have HR := Lib.hid hR
  clear hR
  go_wp2_with fail
  refine bodyPost_ret (v := .tuple #[.int .i64 m, .slice none 0 0, .int .i64 er]) (by simp [results, Tryz.f15, go_sem]) rfl ?_
  obtain ⟨r1, r2, r3, r4, r5⟩ := HR.out
  exact ⟨M', N', m, er, rfl, r1, (Only.of_below (S := ka.s ++ kb.s) HB1.out).trans r2, r3, r4, r5⟩
end
/-- The log is opened behind the crash. -/
theorem open_c {w W : World} {lb : Nat} {ka kb : Bk} {M N : Mm} {h : Hw} {R : List Rc} {r : Rc} (hL : LgAt W lb ka kb (some M) (some N)) (ok : LgOk h R) (cM : Clean M) (cN : Clean N) (uM : M.fuse = -1) (uN : N.fuse = -1) (hw : Below w.heap.size w W) (hlo : ∀ x, x ∈ ka.s ∨ x ∈ kb.s → w.heap.size ≤ x)
    (hh : (CpIs h R M ∧ CpIs h R N) ∨ (r.valid = true ∧ r.num = (h.next : Int) ∧ cntW r.b.length ≤ h.free ∧ CpIs (h.more r) (R ++ [r]) M ∧ (CpIs h R N ∨ CpIs (h.more r) (R ++ [r]) N))) :
    Calls Tryz.prog 22 #[.iface 25 (memV ka.p), .iface 25 (memV kb.p)] W fun e w' => ∃ A B g S, e = .returned (.tuple #[.pointer (some ⟨W.heap.size, 0, none⟩), .int .i64 0]) ∧ OpSt w ka kb g S A B [(W.heap.size, true, true)] w' ∧ Only (ka.s ++ kb.s) W w' ∧
      ((g = h ∧ S = R ∧ CpIs h R M) ∨ (g = h.more r ∧ S = R ++ [r] ∧ r.valid = true ∧ CpIs (h.more r) (R ++ [r]) M)) := by
  have fM := (hL.a M rfl).full
  have fN := (hL.b N rfl).full
  have hbg : BgH (some M) (some N) := by
    rcases hh with ⟨h1, h2⟩ | ⟨hv, hn, hs, h1, h2⟩
    · exact bgH_two ok.ok ok.ok h1 h2 cM cN
    · have okm := more_ok ok hv hn hs
      rcases h2 with h2 | h2
      · exact bgH_two okm.ok ok.ok h1 h2 cM cN
      · exact bgH_two okm.ok okm.ok h1 h2 cM cN
  obtain ⟨A, B, g, S, e1, L, hgs⟩ := crash_open ok cM cN fM fN uM uN hh
  have := open2_w W ka kb (some M) (some N) hL.st hbg
  rw [e1] at this
  refine this.mono ?_
  rintro e w' ⟨rfl, hL', ho⟩
  refine ⟨A, B, g, S, rfl, ⟨hL'.st, L, fun m p q hx => ?_, hw.trans (ho.below hw.size (fun x hx => hlo x (fS_mem hx))), hlo⟩, ho, hgs⟩
  rw [List.mem_singleton] at hx
  cases hx
  exact ⟨hL'.row, hL'.lbn, Or.inl rfl⟩
theorem Recs.take {w : World} {B : Nat} {a : Option Addr} {l : List Lr} (h : Recs w B a l) (n : Nat) : Recs w B a (l.take n) := by
  refine ⟨fun hl => ?_, fun x hx => h.chs x (List.mem_of_mem_take hx)⟩
  obtain ⟨b, off, h1, h2, h3⟩ := h.cells (fun e => hl (by rw [e]; simp))
  refine ⟨b, off, h1, h2, fun i hi => ?_⟩
  rw [List.getElem_take]
  exact h3 i (by rw [List.length_take] at hi; omega)
end Go.Proofs.YtjpkdhnponcciaaGreatDoor

/-
  Walks: First, Next, Free, Open, Copy. Condition: the log and its copies lie in memory.
  Walks: a piece of a record in a sector of a copy. Condition: the copy lies in memory and has the sector.
-/
import Derived.Test.YtjpkdhnponcciaaGreatDoorCE
namespace Go.Proofs.YtjpkdhnponcciaaGreatDoor

section
open Go.RowKit Go.Sort

/-- What is asked of the copies. -/
structure BgH (A B : Cp) : Prop where
  ha : ∀ M, A = some M → 16 ≤ M.secs.length
  hb : ∀ N, B = some N → 16 ≤ N.secs.length
  hx : ∀ M x, A = some M → hdC A = some x → x.n ≤ M.secs.length
  hy : ∀ N y, B = some N → hdC B = some y → y.n ≤ N.secs.length
theorem hdC_ok {c : Cp} {x : Hw} (h : hdC c = some x) : HwOk x := by
  unfold hdC at h
  obtain ⟨s, _, h2⟩ := Option.bind_eq_some_iff.1 h
  exact hwD_ok h2
theorem beginV_ok {A B : Cp} (h : (beginV A B).e = 0) : HwOk (beginV A B).h := by
  unfold beginV at h ⊢
  split at h
  · simp at h
  · rename_i h0
    rw [if_neg h0]
    have hA : ∀ {x}, hdC A = some x → HwOk (bgA A B x).h := fun hx => by unfold bgA; split <;> exact hdC_ok hx
    have hB : ∀ {y}, hdC B = some y → HwOk (bgB A B y).h := fun hy => by unfold bgB; split <;> exact hdC_ok hy
    cases hda : hdC A with
    | none =>
      cases hdb : hdC B with
      | none => rw [hda, hdb] at h; simp at h
      | some y => exact hB hdb
    | some x =>
      cases hdb : hdC B with
      | none => exact hA hda
      | some y =>
        simp only
        split
        · exact hA hda
        · split
          · exact hB hdb
          · exact hdC_ok hda
section
attribute [local go_sem ↓] loadHd_down storeHd_down
set_option maxRecDepth 100000 in
set_option maxHeartbeats 2000000 in
theorem first_w (w : World) (lb : Nat) (ka kb : Bk) (A B : Cp) (hL : LgAt w lb ka kb A B) (H : BgH A B) : Calls Tryz.prog 43 #[.pointer (some ⟨lb, 0, none⟩)] w fun e w' =>
    e = .returned (.tuple #[.int .i64 (if (beginV A B).e ≠ 0 then 0 else ((beginV A B).h.first : Nat)), .int .i64 (beginV A B).e]) ∧ LgAt w' lb ka kb (beginV A B).a (beginV A B).b ∧ Only (fS ka kb A B) w w' := by
  have HBg := Lib.hid (begin_w w lb ka kb A B hL H.ha H.hb H.hx H.hy)
  have HK := Lib.hid (@beginV_ok A B)
  clear hL H
  generalize beginV A B = g at HBg HK ⊢
  obtain ⟨h, er, A', B'⟩ := g
  simp only at HBg HK ⊢
  go_enter Tryz.func43, Tryz.ntmps43
  go_wp2_with fail
  refine HBg.out.mono ?_
  rintro e w1 ⟨rfl, hL1, ho1⟩
  have HL1 := Lib.hid hL1
  have HO1 := Lib.hid ho1
  obtain ⟨w2, st2, hg2, hb2⟩ := put_hd w1 h.cs rfl (by simp [Value.oneCell'])
  have HR := Lib.hid (show LgAt w2 lb ka kb A' B' ∧ Only (fS ka kb A B) w w2 from ⟨hL1.below hb2, ho1.trans (Only.of_below hb2)⟩)
  by_cases he : er = 0
  · subst he
    have ok := HK.out rfl
    have c := cell_at (i := 1) (v := .int .i64 (h.first : Nat)) hg2 rfl
    clear hL1 ho1 hg2 hb2 ok
    go_wp2_with fail
    go_ret2
    exact ⟨by simp, HR.out⟩
  · have hb0 : (er != 0) = true := by rw [bne_iff_ne]; exact he
    have HQ := Lib.hid he
    clear hL1 ho1 hg2 hb2 he
    go_wp2_with fail
    go_ret2
    exact ⟨rfl, HR.out⟩
set_option maxRecDepth 100000 in
set_option maxHeartbeats 2000000 in
theorem next_w (w : World) (lb : Nat) (ka kb : Bk) (A B : Cp) (hL : LgAt w lb ka kb A B) (H : BgH A B) : Calls Tryz.prog 44 #[.pointer (some ⟨lb, 0, none⟩)] w fun e w' =>
    e = .returned (.tuple #[.int .i64 (if (beginV A B).e ≠ 0 then 0 else ((beginV A B).h.next : Nat)), .int .i64 (beginV A B).e]) ∧ LgAt w' lb ka kb (beginV A B).a (beginV A B).b ∧ Only (fS ka kb A B) w w' := by
  have HBg := Lib.hid (begin_w w lb ka kb A B hL H.ha H.hb H.hx H.hy)
  have HK := Lib.hid (@beginV_ok A B)
  clear hL H
  generalize beginV A B = g at HBg HK ⊢
  obtain ⟨h, er, A', B'⟩ := g
  simp only at HBg HK ⊢
  go_enter Tryz.func44, Tryz.ntmps44
  go_wp2_with fail
  refine HBg.out.mono ?_
  rintro e w1 ⟨rfl, hL1, ho1⟩
  have HL1 := Lib.hid hL1
  have HO1 := Lib.hid ho1
  obtain ⟨w2, st2, hg2, hb2⟩ := put_hd w1 h.cs rfl (by simp [Value.oneCell'])
  have HR := Lib.hid (show LgAt w2 lb ka kb A' B' ∧ Only (fS ka kb A B) w w2 from ⟨hL1.below hb2, ho1.trans (Only.of_below hb2)⟩)
  by_cases he : er = 0
  · subst he
    have ok := HK.out rfl
    have c := cell_at (i := 2) (v := .int .i64 (h.next : Nat)) hg2 rfl
    clear hL1 ho1 hg2 hb2 ok
    go_wp2_with fail
    go_ret2
    exact ⟨by simp, HR.out⟩
  · have hb0 : (er != 0) = true := by rw [bne_iff_ne]; exact he
    have HQ := Lib.hid he
    clear hL1 ho1 hg2 hb2 he
    go_wp2_with fail
    go_ret2
    exact ⟨rfl, HR.out⟩
set_option maxRecDepth 100000 in
set_option maxHeartbeats 2000000 in
theorem lfree_w (w : World) (lb : Nat) (ka kb : Bk) (A B : Cp) (hL : LgAt w lb ka kb A B) (H : BgH A B) : Calls Tryz.prog 36 #[.pointer (some ⟨lb, 0, none⟩)] w fun e w' =>
    e = .returned (.tuple #[.int .i64 (if (beginV A B).e ≠ 0 then 0 else ((beginV A B).h.free : Nat)), .int .i64 (beginV A B).e]) ∧ LgAt w' lb ka kb (beginV A B).a (beginV A B).b ∧ Only (fS ka kb A B) w w' := by
  have HBg := Lib.hid (begin_w w lb ka kb A B hL H.ha H.hb H.hx H.hy)
  have HK := Lib.hid (@beginV_ok A B)
  clear hL H
  generalize beginV A B = g at HBg HK ⊢
  obtain ⟨h, er, A', B'⟩ := g
  simp only at HBg HK ⊢
  go_enter Tryz.func36, Tryz.ntmps36
  go_wp2_with fail
  refine HBg.out.mono ?_
  rintro e w1 ⟨rfl, hL1, ho1⟩
  have HL1 := Lib.hid hL1
  have HO1 := Lib.hid ho1
  obtain ⟨w2, st2, hg2, hb2⟩ := put_hd w1 h.cs rfl (by simp [Value.oneCell'])
  have HR := Lib.hid (show LgAt w2 lb ka kb A' B' ∧ Only (fS ka kb A B) w w2 from ⟨hL1.below hb2, ho1.trans (Only.of_below hb2)⟩)
  by_cases he : er = 0
  · subst he
    have ok := HK.out rfl
    have ld := loadHd_at hg2 rfl
    clear hL1 ho1 hg2 hb2
    go_wp2_with fail
    refine (free_w h ok w2).mono ?_
    rintro e w3 ⟨rfl, hb3⟩
    have HR3 := Lib.hid (show LgAt w3 lb ka kb A' B' ∧ Only (fS ka kb A B) w w3 from ⟨HR.out.1.below hb3, HR.out.2.trans (Only.of_below hb3)⟩)
    clear hb3
    go_wp2_with fail
    go_ret2
    exact ⟨by simp, HR3.out⟩
  · have hb0 : (er != 0) = true := by rw [bne_iff_ne]; exact he
    have HQ := Lib.hid he
    clear hL1 ho1 hg2 hb2 he
    go_wp2_with fail
    go_ret2
    exact ⟨rfl, HR.out⟩
/-- Two copies in memory. -/
structure StAt (w : World) (ka kb : Bk) (A B : Cp) : Prop where
  a : CpAt w ka A
  b : CpAt w kb B
  dis : ∀ x ∈ ka.s, x ∉ kb.s
  lt : ∀ x, x ∈ ka.s ∨ x ∈ kb.s → x < w.heap.size
theorem LgAt.st {w : World} {lb : Nat} {ka kb : Bk} {A B : Cp} (h : LgAt w lb ka kb A B) : StAt w ka kb A B := ⟨h.a, h.b, h.dis, h.lt⟩
theorem StAt.lg {w w1 : World} {ka kb : Bk} {A B : Cp} (h : StAt w ka kb A B) (hb : Below w.heap.size w w1) (hr : w1.heap[w.heap.size]? = some (.cells #[ifC ka A, ifC kb B] 103 (0, 0))) : LgAt w1 w.heap.size ka kb A B :=
  ⟨hr, h.a.below hb, h.b.below hb, h.dis, fun x hx => Nat.lt_of_lt_of_le (h.lt x hx) hb.size, fun hm => by have := h.lt _ (Or.inl hm); omega, fun hm => by have := h.lt _ (Or.inr hm); omega⟩
set_option maxRecDepth 100000 in
set_option maxHeartbeats 2000000 in
theorem open2_w (w : World) (ka kb : Bk) (A B : Cp) (hS : StAt w ka kb A B) (H : BgH A B) : Calls Tryz.prog 22 #[ifC ka A, ifC kb B] w fun e w' =>
    e = .returned (.tuple #[.pointer (if (beginV A B).e ≠ 0 then none else some ⟨w.heap.size, 0, none⟩), .int .i64 (beginV A B).e]) ∧ LgAt w' w.heap.size ka kb (beginV A B).a (beginV A B).b ∧ Only (fS ka kb A B) w w' := by
  obtain ⟨w1, hw1⟩ : ∃ w1, w1 = w.alloc (.cells #[ifC ka A, ifC kb B] 103) := ⟨_, rfl⟩
  have hg1 : w1.heap[w.heap.size]? = some (.cells #[ifC ka A, ifC kb B] 103 (0, 0)) := by rw [hw1]; exact heap_alloc_new _ _
  have hb1 : Below w.heap.size w w1 := by rw [hw1]; exact box_below0 _ _ _
  have HBg := Lib.hid (begin_w w1 w.heap.size ka kb A B (hS.lg hb1 hg1) H.ha H.hb H.hx H.hy)
  have HB1 := Lib.hid hb1
  have HW := Lib.hid hw1
  have HIa := Lib.hid (show ∀ v, ifC ka A = v → v = ifC ka A from fun v h => h.symm)
  clear hS H hw1 hg1 hb1
  generalize beginV A B = g at HBg ⊢
  obtain ⟨h, er, A', B'⟩ := g
  simp only at HBg ⊢
  have ca : (∃ p, ifC ka A = .iface 25 p) ∨ ifC ka A = .nilIface := by cases A <;> simp [ifC]
  have cb : (∃ p, ifC kb B = .iface 25 p) ∨ ifC kb B = .nilIface := by cases B <;> simp [ifC]
  clear HIa
  generalize ifC ka A = va at HW ca ⊢
  generalize ifC kb B = vb at HW cb ⊢
  rcases ca with ⟨pa, rfl⟩ | rfl <;> rcases cb with ⟨pb, rfl⟩ | rfl
  all_goals
    go_enter Tryz.func22, Tryz.ntmps22
    go_wp2_with fail
    rw [← HW.out]
    refine HBg.out.mono ?_
    rintro e w2 ⟨rfl, hL1, ho1⟩
    obtain ⟨w3, st3, hg3, hb3⟩ := put_hd w2 h.cs rfl (by simp [Value.oneCell'])
    have HR := Lib.hid (show LgAt w3 w.heap.size ka kb A' B' ∧ Only (fS ka kb A B) w w3 from ⟨hL1.below hb3, ((Only.of_below HB1.out).trans ho1).trans (Only.of_below hb3)⟩)
    clear hL1 ho1 hg3 hb3
    by_cases he : er = 0
    · subst he
      go_wp2_with fail
      go_ret2
      exact ⟨by simp, HR.out⟩
    · have hb0 : (er != 0) = true := by rw [bne_iff_ne]; exact he
      have HQ := Lib.hid he
      clear he
      go_wp2_with fail
      go_ret2
      exact ⟨rfl, HR.out⟩
end
end

section
open Go.RowKit Go.Sort

theorem info_pc : (Tryz.prog.info? 261).map (·.size) = some 5 := by kernel_rfl
def loadPc (p : Addr) : Sem Value := loadVar 261 p
theorem loadPc_down (p : Addr) : loadVar 261 p = loadPc p := rfl
def storePc (p : Addr) (v : Value) : Sem Unit := storeVar 261 p v
theorem storePc_down (p : Addr) (v : Value) : storeVar 261 p v = storePc p v := rfl
theorem loadPc_at {w : World} {g : Nat} {cs : Array Value} {t : TypeId} {fr : Nat × Nat} (hg : w.heap[g]? = some (.cells cs t fr)) (hi : cs.size = 5) : (loadPc ⟨g, 0, none⟩).run Tryz.prog w = .ok (.agg cs) w :=
  run_loadVar_row (P := Tryz.prog) w g t 261 cs fr _ hg Tryz.underlying261 rfl (by rw [info_pc, hi])
theorem storePc_at {w : World} {g : Nat} {cs : Array Value} {t : TypeId} {old : Array Value} (hg : w.heap[g]? = some (.cells old t (0, 0))) (hi : cs.size = 5) (ho : old.size = 5) (h1 : cs.all (·.oneCell') = true) : (storePc ⟨g, 0, none⟩ (.agg cs)).run Tryz.prog w = .ok () (w.setRow g cs) :=
  run_storeVar_row (P := Tryz.prog) w g t 261 old cs hg (by rw [info_pc, hi]) (by rw [ho, hi]) h1
abbrev pcZ : Array Value := #[.int .i64 0, .int .i64 0, .int .i64 0, .int .i64 0, .string ⟨#[]⟩]
theorem put_pc (w : World) (cs : Array Value) (hi : cs.size = 5) (h1 : cs.all (·.oneCell') = true) : ∃ W, (storePc ⟨w.heap.size, 0, none⟩ (.agg cs)).run Tryz.prog (w.alloc (.cells pcZ 261)) = .ok () W ∧ W.heap[w.heap.size]? = some (.cells cs 261 (0, 0)) ∧ Below w.heap.size w W := by
  have hz := heap_alloc_new w (.cells pcZ 261)
  exact ⟨_, storePc_at hz hi rfl h1, setRow_heap _ _ _ _ _ _ hz, below_setRow (box_below0 w pcZ 261) (Nat.le_refl _) _⟩
theorem ret_pc {fn : Func} {R : Ending → World → Prop} {a : Act} {w : World} {p : Tmp} {rb : Nat} {cs : Array Value} (hf : fn.results = #[.cell p 261]) (hp : a.tmps.getD p undef = .pointer (some ⟨rb, 0, none⟩)) (hd : a.defers = [])
    (hi : cs.size = 5) (hg : w.heap[rb]? = some (.cells cs 261 (0, 0))) (hR : R (.returned (.agg cs)) w) : bodyPost Tryz.prog fn R .ret a w :=
  bodyPost_ret (results_cell_row hf _ _ rb 261 _ (0, 0) _ hp hg Tryz.underlying261 rfl (by rw [info_pc, hi])) hd hR
theorem ret2_pc {fn : Func} {R : Ending → World → Prop} {a : Act} {w : World} {p q : Tmp} {rb : Nat} {cs : Array Value} {v : Value} (hf : fn.results = #[.cell p 261, .tmp q]) (hp : a.tmps.getD p undef = .pointer (some ⟨rb, 0, none⟩)) (hq : a.tmps.getD q undef = v) (hd : a.defers = [])
    (hi : cs.size = 5) (hg : w.heap[rb]? = some (.cells cs 261 (0, 0))) (hR : R (.returned (.tuple #[.agg cs, v])) w) : bodyPost Tryz.prog fn R .ret a w := by
  subst hq
  exact bodyPost_ret (results2 hf _ hp (loadPc_at hg hi)) hd hR

theorem take_at {P : Program} {md} {ops : Array Oper} {Q : Exit → Act → World → Prop} {S : World → Prop} {i : Nat} {oi : Oper} {v : Value} {fuel : Nat} {listed : Array Bool} {a : Act} {w : World} {d : Option Tmp} (hi : ops[i]? = some oi) (hd : oi.dst = d)
    (hs : Region.noSelect ops = true) (hf : Region.free md ops listed i = true) (hr : (Region.ready md ops listed).contains i = true)
    (hQ : ∀ c a w, Q (.panic c) (a.put oi.dst v) w → Q (.panic c) a w) (hy : YieldsIf P ops S oi v a) (hS : S w)
    (h : wpAnyH P md ops Q S fuel (listed.setIfInBounds i true) (a.put d v) w) : wpAnyH P md ops Q S (fuel + 1) listed a w := by
  subst hd
  exact wpAnyH_take hi hs hf hr hQ hy hS h
abbrev Pc.cs (p : Pc) : Array Value := #[.int .i64 p.num, .int .i64 p.idx, .int .i64 p.len, .int .i64 p.sum, .string ⟨p.dat.toArray⟩]
instance : Inhabited Pc := ⟨⟨0, 0, 0, 0, []⟩⟩
def pz : Pc := ⟨0, 0, 0, 0, []⟩
/-- What readPiece returns: the piece, or some piece and false. -/
def PcE (r : Option Pc) (e : Ending) : Prop := ∃ p, e = .returned (.tuple #[.agg (Pc.cs p), .bool r.isSome]) ∧ (∀ q, r = some q → p = q)
set_option maxRecDepth 100000 in
set_option maxHeartbeats 1000000 in
theorem rp1_w (w : World) (c g : Nat) (left : By) (err : Int) (hc : w.cell? ⟨c, 0, none⟩ = some (.pointer (some ⟨g, 0, none⟩))) (h : RdAt w g left err) (hl : left.length ≤ 1000000) :
    Calls Tryz.prog 238 #[.pointer (some ⟨c, 0, none⟩)] w fun e w' => e = .returned (.int .i64 (cntR 1099511627776 left err).1) ∧ RdAt w' g (cntR 1099511627776 left err).2.1 (cntR 1099511627776 left err).2.2 ∧ Only [g] w w' := by
  have HC := Lib.hid (count_gen 1099511627776 (by decide) w g left err h hl)
  generalize (cntR 1099511627776 left err) = q at HC ⊢
  obtain ⟨n, l2, e2⟩ := q
  simp only at HC ⊢
  clear h
  go_enter Tryz.func238, Tryz.ntmps238
  go_wp2_with fail
  refine HC.out.mono ?_
  rintro e w1 ⟨rfl, h1, h2⟩
  go_wp2_with fail
  go_ret
  exact ⟨rfl, h1, h2⟩
theorem opC_len {w : World} {k : Bk} {c : Cp} (h : CpAt w k c) {n : Nat} {s : By} (hs : opC c n = some s) : s.length ≤ 1000 := by
  cases c with
  | none => cases hs
  | some M =>
    simp only [opC, Option.bind_some] at hs
    cases hr : M.rd n with
    | none => rw [hr] at hs; cases hs
    | some t =>
      rw [hr] at hs
      have ht := (h M rfl).full t (List.mem_of_getElem? (rd_secs hr))
      simp only [Option.bind_some, openL] at hs
      split at hs
      · cases hs; rw [List.length_take]; omega
      · cases hs
section
attribute [local go_sem ↓] loadPc_down storePc_down
set_option maxRecDepth 100000 in
set_option maxHeartbeats 4000000 in
theorem readPiece_w (w : World) (k : Bk) (c : Cp) (n num idx : Nat) (h : CpAt w k c) (hn : ∀ M, c = some M → n < M.secs.length) : Calls Tryz.prog 193 #[ifC k c, .int .i64 n, .int .i64 num, .int .i64 idx] w fun e w' => PcE (pcC c n num idx) e ∧ Below w.heap.size w w' := by
  obtain ⟨w0, hw0⟩ : ∃ w0, w0 = w.alloc (.cells pcZ 261) := ⟨_, rfl⟩
  have hx : w0.heap[w.heap.size]? = some (.cells pcZ 261 (0, 0)) := by rw [hw0]; exact heap_alloc_new w _
  have hb0 : Below w.heap.size w w0 := by rw [hw0]; exact box_below0 _ _ _
  have HW := Lib.hid hw0
  have HO := Lib.hid (open_w w0 k c n (h.below hb0) hn)
  have HB0 := Lib.hid hb0
  have HX := Lib.hid hx
  have HD := Lib.hid (show pcC c n num idx = ((opC c n).bind pcD).bind fun p => if p.num = num ∧ p.idx = idx then some p else none from rfl)
  have hlen : ∀ s, opC c n = some s → s.length ≤ 1000 := fun s hs => opC_len h hs
  clear hx hb0 h hn hw0
  generalize pcC c n num idx = r at HD ⊢
  generalize ifC k c = ic at HO ⊢
  cases ho : opC c n with
  | none =>
    rw [ho] at HO HD
    have HD2 := Lib.hid (show r = none by rw [HD.out]; rfl)
    unfold opT at HO
    clear ho HD hlen
    go_enter Tryz.func193, Tryz.ntmps193
    go_upto_region 1 with fail
    rw [← HW.out]
    go_wp2_with fail
    refine HO.out.mono ?_
    rintro e w1 ⟨rfl, hb1⟩
    have hx1 := heap_below hb1 (lt_of_block HX.out) HX.out
    have st := storePc_at (cs := pcZ) hx1 rfl rfl (by simp [Value.oneCell'])
    have HG := Lib.hid (setRow_heap w1 w.heap.size pcZ pcZ 261 (0, 0) hx1)
    have HBZ := Lib.hid (below_setRow (HB0.out.trans (hb1.mono HB0.out.size)) (Nat.le_refl w.heap.size) pcZ)
    clear hb1 hx1
    go_wp2_with fail
    (try simp only [Exit.inBlock, Exit.then])
    refine ret2_pc (cs := pcZ) rfl rfl rfl rfl rfl HG.out ?_
    refine ⟨⟨pz, ?_, fun q hq => by rw [HD2.out] at hq; cases hq⟩, HBZ.out⟩
    rw [HD2.out]; rfl
  | some s =>
    have hs := hlen s ho
    rw [ho] at HO HD
    have HD2 := Lib.hid (show r = (pcD s).bind fun p => if p.num = num ∧ p.idx = idx then some p else none by rw [HD.out]; rfl)
    unfold opT at HO
    clear ho HD hlen
    go_enter Tryz.func193, Tryz.ntmps193
    go_upto_region 1 with fail
    rw [← HW.out]
    go_wp2_with fail
    refine HO.out.mono ?_
    rintro e w1 ⟨rfl, hb1⟩
    have HX1 := Lib.hid (heap_below hb1 (lt_of_block HX.out) HX.out)
    have HB1 := Lib.hid (HB0.out.trans (hb1.mono HB0.out.size))
    clear hb1
    go_wp2_with fail
    refine (newReader_any s w1).mono ?_
    rintro e w2 ⟨rfl, hr2, hb2⟩
    go_wp2_with fail
    have HNE := Lib.hid (show w2.heap.size ≠ w1.heap.size by have := hr2.lt; omega)
    have HNX := Lib.hid (show w.heap.size ≠ w1.heap.size by have := lt_of_block HX1.out; omega)
    have HNW := Lib.hid (show w.heap.size < w2.heap.size by have := lt_of_block HX1.out; have := hb2.size; omega)
    obtain ⟨w3, hw3⟩ : ∃ w3, w3 = w2.alloc (.cells #[.pointer (some ⟨w1.heap.size, 0, none⟩)] 167) := ⟨_, rfl⟩
    have hg3 : w3.heap[w2.heap.size]? = some (.cells #[.pointer (some ⟨w1.heap.size, 0, none⟩)] 167 (0, 0)) := by rw [hw3]; exact heap_alloc_new _ _
    have hb3 : Below w2.heap.size w2 w3 := by rw [hw3]; exact box_below0 _ _ _
    rw [← hw3]
    have hc3 : w3.cell? ⟨w2.heap.size, 0, none⟩ = some (.pointer (some ⟨w1.heap.size, 0, none⟩)) := cell_at hg3 rfl
    have HS3 := Lib.hid (show w2.heap.size + 1 ≤ w3.heap.size by rw [hw3]; simp)
    have HR3 := Lib.hid (RdAt.mk (heap_below hb3 hr2.lt hr2.row) : RdAt w3 w1.heap.size s 0)
    have HX3 := Lib.hid (heap_below (hb2.trans (hb3.mono hb2.size)) (lt_of_block HX1.out) HX1.out)
    have HB3 := Lib.hid (HB1.out.trans ((hb2.trans (hb3.mono hb2.size)).mono HB1.out.size))
    obtain ⟨l3, hl3⟩ : ∃ l, l = s := ⟨_, rfl⟩
    obtain ⟨e3, he3⟩ : ∃ e : Int, e = 0 := ⟨_, rfl⟩
    have HL3 := Lib.hid hl3
    have HE3 := Lib.hid he3
    have hll3 : l3.length ≤ 1000 := by rw [hl3]; exact hs
    rw [← hl3, ← he3] at HR3
    clear hw3 hg3 hb3 hr2 hb2 hl3 he3 hs
    refine (rp1_w w3 w2.heap.size w1.heap.size l3 e3 hc3 HR3.out (by omega)).mono ?_
    rintro e w4 ⟨rfl, hr4, ho4⟩
    have hL4 := cntR_len 1099511627776 l3 e3
    obtain ⟨⟨n4, l4, e4⟩, hq4⟩ : ∃ q, q = cntR 1099511627776 l3 e3 := ⟨_, rfl⟩
    rw [← hq4] at hr4 hL4
    simp only [← hq4] at hr4 hL4 ⊢
    have hll4 : l4.length ≤ 1000 := by omega
    have hc4 := (ho4.cell (p := ⟨w2.heap.size, 0, none⟩) (by have := HS3.out; show w2.heap.size < _; omega) (by rw [List.mem_singleton]; exact HNE.out)).trans hc3
    have HS4 := Lib.hid (Nat.le_trans HS3.out ho4.size)
    have HR4 := Lib.hid hr4
    have HX4 := Lib.hid (ho4.heap HX3.out (by rw [List.mem_singleton]; exact HNX.out))
    have HB4 := Lib.hid (HB3.out.trans ((ho4.below (B := w.heap.size) HB3.out.size (fun i hi => by rw [List.mem_singleton] at hi; rw [hi]; exact HB1.out.size))))
    have HQ4 := Lib.hid hq4
    clear hr4 ho4 hL4 hq4 hc3
    go_wp2_with fail
    refine (rp1_w w4 w2.heap.size w1.heap.size l4 e4 hc4 HR4.out (by omega)).mono ?_
    rintro e w5 ⟨rfl, hr5, ho5⟩
    have hL5 := cntR_len 1099511627776 l4 e4
    obtain ⟨⟨n5, l5, e5⟩, hq5⟩ : ∃ q, q = cntR 1099511627776 l4 e4 := ⟨_, rfl⟩
    rw [← hq5] at hr5 hL5
    simp only [← hq5] at hr5 hL5 ⊢
    have hll5 : l5.length ≤ 1000 := by omega
    have hc5 := (ho5.cell (p := ⟨w2.heap.size, 0, none⟩) (by have := HS4.out; show w2.heap.size < _; omega) (by rw [List.mem_singleton]; exact HNE.out)).trans hc4
    have HS5 := Lib.hid (Nat.le_trans HS4.out ho5.size)
    have HR5 := Lib.hid hr5
    have HX5 := Lib.hid (ho5.heap HX4.out (by rw [List.mem_singleton]; exact HNX.out))
    have HB5 := Lib.hid (HB4.out.trans ((ho5.below (B := w.heap.size) HB4.out.size (fun i hi => by rw [List.mem_singleton] at hi; rw [hi]; exact HB1.out.size))))
    have HQ5 := Lib.hid hq5
    clear hr5 ho5 hL5 hq5 hc4
    go_wp2_with fail
    refine (rp1_w w5 w2.heap.size w1.heap.size l5 e5 hc5 HR5.out (by omega)).mono ?_
    rintro e w6 ⟨rfl, hr6, ho6⟩
    have hL6 := cntR_len 1099511627776 l5 e5
    obtain ⟨⟨n6, l6, e6⟩, hq6⟩ : ∃ q, q = cntR 1099511627776 l5 e5 := ⟨_, rfl⟩
    rw [← hq6] at hr6 hL6
    simp only [← hq6] at hr6 hL6 ⊢
    have hll6 : l6.length ≤ 1000 := by omega
    have hc6 := (ho6.cell (p := ⟨w2.heap.size, 0, none⟩) (by have := HS5.out; show w2.heap.size < _; omega) (by rw [List.mem_singleton]; exact HNE.out)).trans hc5
    have HS6 := Lib.hid (Nat.le_trans HS5.out ho6.size)
    have HR6 := Lib.hid hr6
    have HX6 := Lib.hid (ho6.heap HX5.out (by rw [List.mem_singleton]; exact HNX.out))
    have HB6 := Lib.hid (HB5.out.trans ((ho6.below (B := w.heap.size) HB5.out.size (fun i hi => by rw [List.mem_singleton] at hi; rw [hi]; exact HB1.out.size))))
    have HQ6 := Lib.hid hq6
    clear hr6 ho6 hL6 hq6 hc5
    go_wp2_with fail
    refine (rp1_w w6 w2.heap.size w1.heap.size l6 e6 hc6 HR6.out (by omega)).mono ?_
    rintro e w7 ⟨rfl, hr7, ho7⟩
    have hL7 := cntR_len 1099511627776 l6 e6
    obtain ⟨⟨n7, l7, e7⟩, hq7⟩ : ∃ q, q = cntR 1099511627776 l6 e6 := ⟨_, rfl⟩
    rw [← hq7] at hr7 hL7
    simp only [← hq7] at hr7 hL7 ⊢
    have hll7 : l7.length ≤ 1000 := by omega
    have hc7 := (ho7.cell (p := ⟨w2.heap.size, 0, none⟩) (by have := HS6.out; show w2.heap.size < _; omega) (by rw [List.mem_singleton]; exact HNE.out)).trans hc6
    have HS7 := Lib.hid (Nat.le_trans HS6.out ho7.size)
    have HR7 := Lib.hid hr7
    have HX7 := Lib.hid (ho7.heap HX6.out (by rw [List.mem_singleton]; exact HNX.out))
    have HB7 := Lib.hid (HB6.out.trans ((ho7.below (B := w.heap.size) HB6.out.size (fun i hi => by rw [List.mem_singleton] at hi; rw [hi]; exact HB1.out.size))))
    have HQ7 := Lib.hid hq7
    clear hr7 ho7 hL7 hq7 hc6
    obtain ⟨w8, st8, hg8, hb8⟩ := put_pc w7 #[.int .i64 n4, .int .i64 n5, .int .i64 n6, .int .i64 n7, .string ⟨#[]⟩] rfl (by simp [Value.oneCell'])
    have hc8 := (hb8.cell (p := ⟨w2.heap.size, 0, none⟩) (by have := HS7.out; show w2.heap.size < _; omega)).trans hc7
    have HR8 := Lib.hid (RdAt.mk (heap_below hb8 HR7.out.lt HR7.out.row) : RdAt w8 w1.heap.size l7 e7)
    have HX8 := Lib.hid (heap_below hb8 (lt_of_block HX7.out) HX7.out)
    have HB8 := Lib.hid (HB7.out.trans (hb8.mono HB7.out.size))
    have HG8 := Lib.hid hg8
    have HZ8 := Lib.hid (show w2.heap.size ≠ w7.heap.size ∧ w1.heap.size ≠ w7.heap.size ∧ w.heap.size ≠ w7.heap.size ∧ w7.heap.size < w8.heap.size by
      have h1 := HS7.out; have h2 := HR7.out.lt; have h3 := lt_of_block HX7.out; have h4 := lt_of_block hg8; omega)
    clear hc7 hg8 hb8
    go_wp2_with fail
    clear st8
    refine (text_read 96 (by decide) w8 w1.heap.size l7 e7 HR8.out (by omega)).mono ?_
    rintro e w9 ⟨rfl, hr9, ho9⟩
    obtain ⟨⟨d9, l9, e9⟩, hq9⟩ : ∃ q, q = textR 96 l7 e7 := ⟨_, rfl⟩
    rw [← hq9] at hr9
    simp only [← hq9] at hr9 ⊢
    have HQ9 := Lib.hid hq9
    have hg9 := ho9.heap HG8.out (by rw [List.mem_singleton]; exact fun e => HZ8.out.2.1 e.symm)
    obtain ⟨w10, hw10⟩ : ∃ w10, w10 = w9.setCell ⟨w7.heap.size, 4, none⟩ (.string ⟨d9.toArray⟩) := ⟨_, rfl⟩
    have hg10 : w10.heap[w7.heap.size]? = some (.cells (Pc.cs ⟨n4, n5, n6, n7, d9⟩) 261 (0, 0)) := by rw [hw10]; exact cell_row_any w9 w7.heap.size 4 _ _ _ (.string ⟨d9.toArray⟩) hg9
    have ho10 : Only [w7.heap.size] w9 w10 := by rw [hw10]; exact (Only.refl _ _).setCell (Or.inl (by simp)) _
    have hfr : w9.frozen? ⟨w7.heap.size, 4, none⟩ = false := free_at hg9 4
    have hcc : w9.cell? ⟨w7.heap.size, 4, none⟩ = some (.string ⟨#[]⟩) := cell_at hg9 rfl
    have hr10 : RdAt w10 w1.heap.size l9 e9 := ⟨ho10.heap hr9.row (by rw [List.mem_singleton]; exact HZ8.out.2.1)⟩
    have HR10 := Lib.hid hr10
    have hc10 := (ho10.cell (p := ⟨w2.heap.size, 0, none⟩) (by have := ho9.size; have := HS7.out; have := HZ8.out; show w2.heap.size < _; omega) (by rw [List.mem_singleton]; exact HZ8.out.1)).trans ((ho9.cell (p := ⟨w2.heap.size, 0, none⟩) (by have := HS7.out; have := HZ8.out; show w2.heap.size < _; omega) (by rw [List.mem_singleton]; exact HNE.out)).trans hc8)
    have hx10 := ho10.heap (ho9.heap HX8.out (by rw [List.mem_singleton]; exact HNX.out)) (by rw [List.mem_singleton]; exact HZ8.out.2.2.1)
    have HX10 := Lib.hid hx10
    have HB10 := Lib.hid (show Below w.heap.size w w10 from (HB8.out.trans (ho9.below HB8.out.size (fun i hi => by rw [List.mem_singleton] at hi; rw [hi]; exact HB1.out.size))).trans (ho10.below (by have := HB8.out.size; have := ho9.size; omega) (fun i hi => by rw [List.mem_singleton] at hi; rw [hi]; exact HB7.out.size)))
    have HW10 := Lib.hid hw10
    have HG10 := Lib.hid hg10
    clear hw10 hg10 ho10 hr10 hr9 ho9 hq9 hg9 hc8 hx10
    go_upto_region 8 with fail
    rw [← HW10.out]
    clear hfr hcc
    have HV := Lib.hid (show pcD s = if l9.length = 0 then none else some ⟨n4, n5, n6, n7, d9⟩ by
      unfold pcD
      simp only [← HL3.out, ← HE3.out, ← HQ4.out, ← HQ5.out, ← HQ6.out, ← HQ7.out, ← HQ9.out])
    clear HO HX HQ4 HQ5 HQ6 HQ7 HL3 HE3 HQ9
    have ld : (loadPc ⟨w7.heap.size, 0, none⟩).run Tryz.prog w10.drew = .ok (.agg (Pc.cs ⟨n4, n5, n6, n7, d9⟩)) w10.drew := loadPc_at (w := w10.drew) HG10.out rfl
    have c0 : w10.drew.cell? ⟨w7.heap.size, 0, none⟩ = some (.int .i64 n4) := cell_at (w := w10.drew) HG10.out rfl
    have c1 : w10.drew.cell? ⟨w7.heap.size, 1, none⟩ = some (.int .i64 n5) := cell_at (w := w10.drew) HG10.out rfl
    have hcd : w10.drew.cell? ⟨w2.heap.size, 0, none⟩ = some (.pointer (some ⟨w1.heap.size, 0, none⟩)) := hc10
    have HRd := Lib.hid (show RdAt w10.drew w1.heap.size l9 e9 from ⟨HR10.out.row⟩)
    have st := storePc_at (w := w10.drew) (cs := Pc.cs ⟨n4, n5, n6, n7, d9⟩) HX10.out rfl rfl (by simp [Value.oneCell'])
    have HGZ := Lib.hid (setRow_heap w10.drew w.heap.size pcZ (Pc.cs ⟨n4, n5, n6, n7, d9⟩) 261 (0, 0) HX10.out)
    have HBZ := Lib.hid (below_setRow HB10.out.drew (Nat.le_refl w.heap.size) (Pc.cs ⟨n4, n5, n6, n7, d9⟩))
    have HLf := Lib.hid (left_any w10.drew w1.heap.size l9 e9 HRd.out)
    clear hc10 hll3 hll4 hll5 hll6 hll7
    have hcases : (l9.length = 0 ∧ r = none) ∨ (l9.length ≠ 0 ∧ n4 ≠ num ∧ r = none) ∨ (l9.length ≠ 0 ∧ n4 = num ∧ n5 ≠ idx ∧ r = none) ∨ (l9.length ≠ 0 ∧ n4 = num ∧ n5 = idx ∧ r = some ⟨n4, n5, n6, n7, d9⟩) := by
      rw [HD2.out, HV.out]
      by_cases h1 : l9.length = 0
      · exact Or.inl ⟨h1, by rw [if_pos h1]; rfl⟩
      · rw [if_neg h1]
        by_cases h2 : n4 = num
        · by_cases h3 : n5 = idx
          · exact Or.inr (Or.inr (Or.inr ⟨h1, h2, h3, by simp [h2, h3]⟩))
          · exact Or.inr (Or.inr (Or.inl ⟨h1, h2, h3, by simp [h3]⟩))
        · exact Or.inr (Or.inl ⟨h1, h2, by simp [h2]⟩)
    clear HV HD2
    have hox : Only [w.heap.size] w10.drew (w10.drew.setRow w.heap.size (Pc.cs ⟨n4, n5, n6, n7, d9⟩)) := (Only.refl _ _).setRow (Or.inl (by simp)) _
    have hgx := hox.heap (w := w10.drew) HG10.out (by rw [List.mem_singleton]; exact fun e => HZ8.out.2.2.1 e.symm)
    have f0 := loadPc_at hgx rfl
    have f1 := cell_at (i := 0) (v := .int .i64 n4) hgx rfl
    have f2 := cell_at (i := 1) (v := .int .i64 n5) hgx rfl
    have f3 : (w10.drew.setRow w.heap.size (Pc.cs ⟨n4, n5, n6, n7, d9⟩)).cell? ⟨w2.heap.size, 0, none⟩ = some (.pointer (some ⟨w1.heap.size, 0, none⟩)) :=
      (hox.cell (p := ⟨w2.heap.size, 0, none⟩) (by have := HZ8.out; have := HS7.out; have := lt_of_block HG10.out; show w2.heap.size < w10.heap.size; omega) (by rw [List.mem_singleton]; exact fun e => by have e' : w2.heap.size = w.heap.size := e; have := HNW.out; omega)).trans hcd
    clear hox hgx
    rcases hcases with ⟨h1, hr⟩ | ⟨h1, h2, hr⟩ | ⟨h1, h2, h3, hr⟩ | ⟨h1, h2, h3, hr⟩
    all_goals
      have HRr := Lib.hid hr
      clear hr
    · have g1 : ¬ 0 < l9.length := by omega
      have g2 : decide ((0 : Int) < (l9.length : Int)) = false := by simp; exact List.length_eq_zero_iff.1 h1
      have g3 : l9 = [] := List.length_eq_zero_iff.1 h1
      clear h1
      refine wp_region_held_drew (S := fun w' => (loadPc ⟨w7.heap.size, 0, none⟩).run Tryz.prog w' = .ok (.agg (Pc.cs ⟨n4, n5, n6, n7, d9⟩)) w' ∧ w'.cell? ⟨w7.heap.size, 0, none⟩ = some (.int .i64 n4) ∧ w'.cell? ⟨w7.heap.size, 1, none⟩ = some (.int .i64 n5) ∧ w'.cell? ⟨w2.heap.size, 0, none⟩ = some (.pointer (some ⟨w1.heap.size, 0, none⟩))) (by kernel_rfl) ⟨ld, c0, c1, hcd⟩ (fun hHeld => ?_)
      refine take_at (i := 0) (v := .agg (Pc.cs ⟨n4, n5, n6, n7, d9⟩)) (d := some 39) rfl rfl (by kernel_rfl) (by kernel_rfl) (by kernel_rfl) (fun _ _ _ h => h) (Or.inl ⟨by rfl, ?hya0⟩) (by assumption) ?resta0
      case hya0 =>
        intro W hSw
        (try dsimp only at hSw)
        go_simp
      try simp only [Act.put, List.setIfInBounds_toArray, List.set_cons_zero, List.set_cons_succ]
      refine take_at (i := 1) (v := .pointer (some ⟨w1.heap.size, 0, none⟩)) (d := some 40) rfl rfl (by kernel_rfl) (by kernel_rfl) (by kernel_rfl) (fun _ _ _ h => h) (Or.inl ⟨by rfl, ?hya1⟩) (by assumption) ?resta1
      case hya1 =>
        intro W hSw
        (try dsimp only at hSw)
        go_simp
      try simp only [Act.put, List.setIfInBounds_toArray, List.set_cons_zero, List.set_cons_succ]
      refine wpAnyH_ready (rs := [2]) (by kernel_rfl) (by simp) ?_
      refine AllReadyH.cons rfl (fun K hK => ?_) AllReadyH.nil
      go_simp
      refine HLf.out.mono ?_
      rintro e w11 ⟨rfl, rfl⟩
      (try go_wp2_with fail)
      refine hK.out _ _ ⟨ld, c0, c1, hcd⟩ (fun hHeld => ?_)
      clear hK K
      try simp only [Act.put, List.setIfInBounds_toArray, List.set_cons_zero, List.set_cons_succ]
      refine take_at (i := 3) (v := .bool false) (d := some 42) rfl rfl (by kernel_rfl) (by kernel_rfl) (by kernel_rfl) (fun _ _ _ h => h) (Or.inl ⟨by rfl, ?hya3⟩) (by assumption) ?resta3
      case hya3 =>
        intro W hSw
        (try dsimp only at hSw)
        go_simp
      try simp only [Act.put, List.setIfInBounds_toArray, List.set_cons_zero, List.set_cons_succ]
      refine take_at (i := 4) (v := .bool false) (d := some 43) rfl rfl (by kernel_rfl) (by kernel_rfl) (by kernel_rfl) (fun _ _ _ h => h) (Or.inl ⟨by rfl, ?hya4⟩) (by assumption) ?resta4
      case hya4 =>
        intro W hSw
        (try dsimp only at hSw)
        go_simp
      try simp only [Act.put, List.setIfInBounds_toArray, List.set_cons_zero, List.set_cons_succ]
      refine take_at (i := 5) (v := undef) (d := some 44) rfl rfl (by kernel_rfl) (by kernel_rfl) (by kernel_rfl) (fun _ _ _ h => h) (Or.inr ⟨by rfl, rfl⟩) (by assumption) ?_
      try simp only [Act.put, List.setIfInBounds_toArray, List.set_cons_zero, List.set_cons_succ]
      refine take_at (i := 6) (v := undef) (d := some 45) rfl rfl (by kernel_rfl) (by kernel_rfl) (by kernel_rfl) (fun _ _ _ h => h) (Or.inr ⟨by rfl, rfl⟩) (by assumption) ?_
      try simp only [Act.put, List.setIfInBounds_toArray, List.set_cons_zero, List.set_cons_succ]
      refine take_at (i := 7) (v := undef) (d := some 46) rfl rfl (by kernel_rfl) (by kernel_rfl) (by kernel_rfl) (fun _ _ _ h => h) (Or.inr ⟨by rfl, rfl⟩) (by assumption) ?_
      try simp only [Act.put, List.setIfInBounds_toArray, List.set_cons_zero, List.set_cons_succ]
      refine take_at (i := 8) (v := undef) (d := some 47) rfl rfl (by kernel_rfl) (by kernel_rfl) (by kernel_rfl) (fun _ _ _ h => h) (Or.inr ⟨by rfl, rfl⟩) (by assumption) ?_
      try simp only [Act.put, List.setIfInBounds_toArray, List.set_cons_zero, List.set_cons_succ]
      refine take_at (i := 9) (v := .bool false) (d := some 48) rfl rfl (by kernel_rfl) (by kernel_rfl) (by kernel_rfl) (fun _ _ _ h => h) (Or.inl ⟨by rfl, ?hya9⟩) (by assumption) ?resta9
      case hya9 =>
        intro W hSw
        (try dsimp only at hSw)
        go_simp
      try simp only [Act.put, List.setIfInBounds_toArray, List.set_cons_zero, List.set_cons_succ]
      refine take_at (i := 10) (v := .bool false) (d := some 49) rfl rfl (by kernel_rfl) (by kernel_rfl) (by kernel_rfl) (fun _ _ _ h => h) (Or.inl ⟨by rfl, ?hya10⟩) (by assumption) ?resta10
      case hya10 =>
        intro W hSw
        (try dsimp only at hSw)
        go_simp
      try simp only [Act.put, List.setIfInBounds_toArray, List.set_cons_zero, List.set_cons_succ]
      refine take_at (i := 11) (v := undef) (d := some 50) rfl rfl (by kernel_rfl) (by kernel_rfl) (by kernel_rfl) (fun _ _ _ h => h) (Or.inr ⟨by rfl, rfl⟩) (by assumption) ?_
      try simp only [Act.put, List.setIfInBounds_toArray, List.set_cons_zero, List.set_cons_succ]
      refine take_at (i := 12) (v := undef) (d := some 51) rfl rfl (by kernel_rfl) (by kernel_rfl) (by kernel_rfl) (fun _ _ _ h => h) (Or.inr ⟨by rfl, rfl⟩) (by assumption) ?_
      try simp only [Act.put, List.setIfInBounds_toArray, List.set_cons_zero, List.set_cons_succ]
      refine take_at (i := 13) (v := undef) (d := some 52) rfl rfl (by kernel_rfl) (by kernel_rfl) (by kernel_rfl) (fun _ _ _ h => h) (Or.inr ⟨by rfl, rfl⟩) (by assumption) ?_
      try simp only [Act.put, List.setIfInBounds_toArray, List.set_cons_zero, List.set_cons_succ]
      refine take_at (i := 14) (v := undef) (d := some 53) rfl rfl (by kernel_rfl) (by kernel_rfl) (by kernel_rfl) (fun _ _ _ h => h) (Or.inr ⟨by rfl, rfl⟩) (by assumption) ?_
      try simp only [Act.put, List.setIfInBounds_toArray, List.set_cons_zero, List.set_cons_succ]
      refine take_at (i := 15) (v := .bool false) (d := some 54) rfl rfl (by kernel_rfl) (by kernel_rfl) (by kernel_rfl) (fun _ _ _ h => h) (Or.inl ⟨by rfl, ?hya15⟩) (by assumption) ?resta15
      case hya15 =>
        intro W hSw
        (try dsimp only at hSw)
        go_simp
      try simp only [Act.put, List.setIfInBounds_toArray, List.set_cons_zero, List.set_cons_succ]
      refine wpAnyH_ready (rs := [16]) (by kernel_rfl) (by simp) ?_
      refine AllReadyH.cons rfl (fun K hK => ?_) AllReadyH.nil
      go_simp
      (try go_wp2_with fail)
      refine hK.out _ _ ⟨f0, f1, f2, f3⟩ (fun hHeld => ?_)
      clear hK K
      try simp only [Act.put, List.setIfInBounds_toArray, List.set_cons_zero, List.set_cons_succ]
      refine take_at (i := 17) (v := .bool false) (d := some 9) rfl rfl (by kernel_rfl) (by kernel_rfl) (by kernel_rfl) (fun _ _ _ h => h) (Or.inl ⟨by rfl, ?hya17⟩) (by assumption) ?resta17
      case hya17 =>
        intro W hSw
        (try dsimp only at hSw)
        go_simp
      try simp only [Act.put, List.setIfInBounds_toArray, List.set_cons_zero, List.set_cons_succ]
      refine wpAnyH_done (by kernel_rfl) ?_ _
      go_wp2_with fail
      (try simp only [Exit.inBlock, Exit.then])
      refine ret2_pc (cs := Pc.cs ⟨n4, n5, n6, n7, d9⟩) rfl rfl rfl rfl rfl HGZ.out ?_
      refine ⟨⟨⟨n4, n5, n6, n7, d9⟩, by rw [HRr.out]; rfl, fun q hq => by rw [HRr.out] at hq; cases hq⟩, HBZ.out⟩
    · have g1 : 0 < l9.length := by omega
      have g2 : decide ((0 : Int) < (l9.length : Int)) = true := by simp; omega
      have g3 : ((n4 : Int) == (num : Int)) = false := by rw [beq_eq_false_iff_ne]; omega
      clear h1
      refine wp_region_held_drew (S := fun w' => (loadPc ⟨w7.heap.size, 0, none⟩).run Tryz.prog w' = .ok (.agg (Pc.cs ⟨n4, n5, n6, n7, d9⟩)) w' ∧ w'.cell? ⟨w7.heap.size, 0, none⟩ = some (.int .i64 n4) ∧ w'.cell? ⟨w7.heap.size, 1, none⟩ = some (.int .i64 n5) ∧ w'.cell? ⟨w2.heap.size, 0, none⟩ = some (.pointer (some ⟨w1.heap.size, 0, none⟩))) (by kernel_rfl) ⟨ld, c0, c1, hcd⟩ (fun hHeld => ?_)
      refine take_at (i := 0) (v := .agg (Pc.cs ⟨n4, n5, n6, n7, d9⟩)) (d := some 39) rfl rfl (by kernel_rfl) (by kernel_rfl) (by kernel_rfl) (fun _ _ _ h => h) (Or.inl ⟨by rfl, ?hyb0⟩) (by assumption) ?restb0
      case hyb0 =>
        intro W hSw
        (try dsimp only at hSw)
        go_simp
      try simp only [Act.put, List.setIfInBounds_toArray, List.set_cons_zero, List.set_cons_succ]
      refine take_at (i := 1) (v := .pointer (some ⟨w1.heap.size, 0, none⟩)) (d := some 40) rfl rfl (by kernel_rfl) (by kernel_rfl) (by kernel_rfl) (fun _ _ _ h => h) (Or.inl ⟨by rfl, ?hyb1⟩) (by assumption) ?restb1
      case hyb1 =>
        intro W hSw
        (try dsimp only at hSw)
        go_simp
      try simp only [Act.put, List.setIfInBounds_toArray, List.set_cons_zero, List.set_cons_succ]
      refine wpAnyH_ready (rs := [2]) (by kernel_rfl) (by simp) ?_
      refine AllReadyH.cons rfl (fun K hK => ?_) AllReadyH.nil
      go_simp
      refine HLf.out.mono ?_
      rintro e w11 ⟨rfl, rfl⟩
      (try go_wp2_with fail)
      refine hK.out _ _ ⟨ld, c0, c1, hcd⟩ (fun hHeld => ?_)
      clear hK K
      try simp only [Act.put, List.setIfInBounds_toArray, List.set_cons_zero, List.set_cons_succ]
      refine take_at (i := 3) (v := .bool true) (d := some 42) rfl rfl (by kernel_rfl) (by kernel_rfl) (by kernel_rfl) (fun _ _ _ h => h) (Or.inl ⟨by rfl, ?hyb3⟩) (by assumption) ?restb3
      case hyb3 =>
        intro W hSw
        (try dsimp only at hSw)
        go_simp
      try simp only [Act.put, List.setIfInBounds_toArray, List.set_cons_zero, List.set_cons_succ]
      refine take_at (i := 4) (v := .bool true) (d := some 43) rfl rfl (by kernel_rfl) (by kernel_rfl) (by kernel_rfl) (fun _ _ _ h => h) (Or.inl ⟨by rfl, ?hyb4⟩) (by assumption) ?restb4
      case hyb4 =>
        intro W hSw
        (try dsimp only at hSw)
        go_simp
      try simp only [Act.put, List.setIfInBounds_toArray, List.set_cons_zero, List.set_cons_succ]
      refine take_at (i := 5) (v := .pointer (some ⟨w7.heap.size, 0, none⟩)) (d := some 44) rfl rfl (by kernel_rfl) (by kernel_rfl) (by kernel_rfl) (fun _ _ _ h => h) (Or.inl ⟨by rfl, ?hyb5⟩) (by assumption) ?restb5
      case hyb5 =>
        intro W hSw
        (try dsimp only at hSw)
        go_simp
      try simp only [Act.put, List.setIfInBounds_toArray, List.set_cons_zero, List.set_cons_succ]
      refine take_at (i := 6) (v := .int .i64 n4) (d := some 45) rfl rfl (by kernel_rfl) (by kernel_rfl) (by kernel_rfl) (fun _ _ _ h => h) (Or.inl ⟨by rfl, ?hyb6⟩) (by assumption) ?restb6
      case hyb6 =>
        intro W hSw
        (try dsimp only at hSw)
        go_simp
      try simp only [Act.put, List.setIfInBounds_toArray, List.set_cons_zero, List.set_cons_succ]
      refine take_at (i := 7) (v := .int .i64 num) (d := some 46) rfl rfl (by kernel_rfl) (by kernel_rfl) (by kernel_rfl) (fun _ _ _ h => h) (Or.inl ⟨by rfl, ?hyb7⟩) (by assumption) ?restb7
      case hyb7 =>
        intro W hSw
        (try dsimp only at hSw)
        go_simp
      try simp only [Act.put, List.setIfInBounds_toArray, List.set_cons_zero, List.set_cons_succ]
      refine take_at (i := 8) (v := .bool false) (d := some 47) rfl rfl (by kernel_rfl) (by kernel_rfl) (by kernel_rfl) (fun _ _ _ h => h) (Or.inl ⟨by rfl, ?hyb8⟩) (by assumption) ?restb8
      case hyb8 =>
        intro W hSw
        (try dsimp only at hSw)
        go_simp
      try simp only [Act.put, List.setIfInBounds_toArray, List.set_cons_zero, List.set_cons_succ]
      refine take_at (i := 9) (v := .bool false) (d := some 48) rfl rfl (by kernel_rfl) (by kernel_rfl) (by kernel_rfl) (fun _ _ _ h => h) (Or.inl ⟨by rfl, ?hyb9⟩) (by assumption) ?restb9
      case hyb9 =>
        intro W hSw
        (try dsimp only at hSw)
        go_simp
      try simp only [Act.put, List.setIfInBounds_toArray, List.set_cons_zero, List.set_cons_succ]
      refine take_at (i := 10) (v := .bool false) (d := some 49) rfl rfl (by kernel_rfl) (by kernel_rfl) (by kernel_rfl) (fun _ _ _ h => h) (Or.inl ⟨by rfl, ?hyb10⟩) (by assumption) ?restb10
      case hyb10 =>
        intro W hSw
        (try dsimp only at hSw)
        go_simp
      try simp only [Act.put, List.setIfInBounds_toArray, List.set_cons_zero, List.set_cons_succ]
      refine take_at (i := 11) (v := undef) (d := some 50) rfl rfl (by kernel_rfl) (by kernel_rfl) (by kernel_rfl) (fun _ _ _ h => h) (Or.inr ⟨by rfl, rfl⟩) (by assumption) ?_
      try simp only [Act.put, List.setIfInBounds_toArray, List.set_cons_zero, List.set_cons_succ]
      refine take_at (i := 12) (v := undef) (d := some 51) rfl rfl (by kernel_rfl) (by kernel_rfl) (by kernel_rfl) (fun _ _ _ h => h) (Or.inr ⟨by rfl, rfl⟩) (by assumption) ?_
      try simp only [Act.put, List.setIfInBounds_toArray, List.set_cons_zero, List.set_cons_succ]
      refine take_at (i := 13) (v := undef) (d := some 52) rfl rfl (by kernel_rfl) (by kernel_rfl) (by kernel_rfl) (fun _ _ _ h => h) (Or.inr ⟨by rfl, rfl⟩) (by assumption) ?_
      try simp only [Act.put, List.setIfInBounds_toArray, List.set_cons_zero, List.set_cons_succ]
      refine take_at (i := 14) (v := undef) (d := some 53) rfl rfl (by kernel_rfl) (by kernel_rfl) (by kernel_rfl) (fun _ _ _ h => h) (Or.inr ⟨by rfl, rfl⟩) (by assumption) ?_
      try simp only [Act.put, List.setIfInBounds_toArray, List.set_cons_zero, List.set_cons_succ]
      refine take_at (i := 15) (v := .bool false) (d := some 54) rfl rfl (by kernel_rfl) (by kernel_rfl) (by kernel_rfl) (fun _ _ _ h => h) (Or.inl ⟨by rfl, ?hyb15⟩) (by assumption) ?restb15
      case hyb15 =>
        intro W hSw
        (try dsimp only at hSw)
        go_simp
      try simp only [Act.put, List.setIfInBounds_toArray, List.set_cons_zero, List.set_cons_succ]
      refine wpAnyH_ready (rs := [16]) (by kernel_rfl) (by simp) ?_
      refine AllReadyH.cons rfl (fun K hK => ?_) AllReadyH.nil
      go_simp
      (try go_wp2_with fail)
      refine hK.out _ _ ⟨f0, f1, f2, f3⟩ (fun hHeld => ?_)
      clear hK K
      try simp only [Act.put, List.setIfInBounds_toArray, List.set_cons_zero, List.set_cons_succ]
      refine take_at (i := 17) (v := .bool false) (d := some 9) rfl rfl (by kernel_rfl) (by kernel_rfl) (by kernel_rfl) (fun _ _ _ h => h) (Or.inl ⟨by rfl, ?hyb17⟩) (by assumption) ?restb17
      case hyb17 =>
        intro W hSw
        (try dsimp only at hSw)
        go_simp
      try simp only [Act.put, List.setIfInBounds_toArray, List.set_cons_zero, List.set_cons_succ]
      refine wpAnyH_done (by kernel_rfl) ?_ _
      go_wp2_with fail
      (try simp only [Exit.inBlock, Exit.then])
      refine ret2_pc (cs := Pc.cs ⟨n4, n5, n6, n7, d9⟩) rfl rfl rfl rfl rfl HGZ.out ?_
      refine ⟨⟨⟨n4, n5, n6, n7, d9⟩, by rw [HRr.out]; rfl, fun q hq => by rw [HRr.out] at hq; cases hq⟩, HBZ.out⟩
    · have g1 : 0 < l9.length := by omega
      have g2 : decide ((0 : Int) < (l9.length : Int)) = true := by simp; omega
      subst h2
      have g3 : ((n4 : Int) == (n4 : Int)) = true := by simp
      have g4 : ((n5 : Int) == (idx : Int)) = false := by rw [beq_eq_false_iff_ne]; omega
      clear h1
      refine wp_region_held_drew (S := fun w' => (loadPc ⟨w7.heap.size, 0, none⟩).run Tryz.prog w' = .ok (.agg (Pc.cs ⟨n4, n5, n6, n7, d9⟩)) w' ∧ w'.cell? ⟨w7.heap.size, 0, none⟩ = some (.int .i64 n4) ∧ w'.cell? ⟨w7.heap.size, 1, none⟩ = some (.int .i64 n5) ∧ w'.cell? ⟨w2.heap.size, 0, none⟩ = some (.pointer (some ⟨w1.heap.size, 0, none⟩))) (by kernel_rfl) ⟨ld, c0, c1, hcd⟩ (fun hHeld => ?_)
      refine take_at (i := 0) (v := .agg (Pc.cs ⟨n4, n5, n6, n7, d9⟩)) (d := some 39) rfl rfl (by kernel_rfl) (by kernel_rfl) (by kernel_rfl) (fun _ _ _ h => h) (Or.inl ⟨by rfl, ?hyc0⟩) (by assumption) ?restc0
      case hyc0 =>
        intro W hSw
        (try dsimp only at hSw)
        go_simp
      try simp only [Act.put, List.setIfInBounds_toArray, List.set_cons_zero, List.set_cons_succ]
      refine take_at (i := 1) (v := .pointer (some ⟨w1.heap.size, 0, none⟩)) (d := some 40) rfl rfl (by kernel_rfl) (by kernel_rfl) (by kernel_rfl) (fun _ _ _ h => h) (Or.inl ⟨by rfl, ?hyc1⟩) (by assumption) ?restc1
      case hyc1 =>
        intro W hSw
        (try dsimp only at hSw)
        go_simp
      try simp only [Act.put, List.setIfInBounds_toArray, List.set_cons_zero, List.set_cons_succ]
      refine wpAnyH_ready (rs := [2]) (by kernel_rfl) (by simp) ?_
      refine AllReadyH.cons rfl (fun K hK => ?_) AllReadyH.nil
      go_simp
      refine HLf.out.mono ?_
      rintro e w11 ⟨rfl, rfl⟩
      (try go_wp2_with fail)
      refine hK.out _ _ ⟨ld, c0, c1, hcd⟩ (fun hHeld => ?_)
      clear hK K
      try simp only [Act.put, List.setIfInBounds_toArray, List.set_cons_zero, List.set_cons_succ]
      refine take_at (i := 3) (v := .bool true) (d := some 42) rfl rfl (by kernel_rfl) (by kernel_rfl) (by kernel_rfl) (fun _ _ _ h => h) (Or.inl ⟨by rfl, ?hyc3⟩) (by assumption) ?restc3
      case hyc3 =>
        intro W hSw
        (try dsimp only at hSw)
        go_simp
      try simp only [Act.put, List.setIfInBounds_toArray, List.set_cons_zero, List.set_cons_succ]
      refine take_at (i := 4) (v := .bool true) (d := some 43) rfl rfl (by kernel_rfl) (by kernel_rfl) (by kernel_rfl) (fun _ _ _ h => h) (Or.inl ⟨by rfl, ?hyc4⟩) (by assumption) ?restc4
      case hyc4 =>
        intro W hSw
        (try dsimp only at hSw)
        go_simp
      try simp only [Act.put, List.setIfInBounds_toArray, List.set_cons_zero, List.set_cons_succ]
      refine take_at (i := 5) (v := .pointer (some ⟨w7.heap.size, 0, none⟩)) (d := some 44) rfl rfl (by kernel_rfl) (by kernel_rfl) (by kernel_rfl) (fun _ _ _ h => h) (Or.inl ⟨by rfl, ?hyc5⟩) (by assumption) ?restc5
      case hyc5 =>
        intro W hSw
        (try dsimp only at hSw)
        go_simp
      try simp only [Act.put, List.setIfInBounds_toArray, List.set_cons_zero, List.set_cons_succ]
      refine take_at (i := 6) (v := .int .i64 n4) (d := some 45) rfl rfl (by kernel_rfl) (by kernel_rfl) (by kernel_rfl) (fun _ _ _ h => h) (Or.inl ⟨by rfl, ?hyc6⟩) (by assumption) ?restc6
      case hyc6 =>
        intro W hSw
        (try dsimp only at hSw)
        go_simp
      try simp only [Act.put, List.setIfInBounds_toArray, List.set_cons_zero, List.set_cons_succ]
      refine take_at (i := 7) (v := .int .i64 n4) (d := some 46) rfl rfl (by kernel_rfl) (by kernel_rfl) (by kernel_rfl) (fun _ _ _ h => h) (Or.inl ⟨by rfl, ?hyc7⟩) (by assumption) ?restc7
      case hyc7 =>
        intro W hSw
        (try dsimp only at hSw)
        go_simp
      try simp only [Act.put, List.setIfInBounds_toArray, List.set_cons_zero, List.set_cons_succ]
      refine take_at (i := 8) (v := .bool true) (d := some 47) rfl rfl (by kernel_rfl) (by kernel_rfl) (by kernel_rfl) (fun _ _ _ h => h) (Or.inl ⟨by rfl, ?hyc8⟩) (by assumption) ?restc8
      case hyc8 =>
        intro W hSw
        (try dsimp only at hSw)
        go_simp
      try simp only [Act.put, List.setIfInBounds_toArray, List.set_cons_zero, List.set_cons_succ]
      refine take_at (i := 9) (v := .bool true) (d := some 48) rfl rfl (by kernel_rfl) (by kernel_rfl) (by kernel_rfl) (fun _ _ _ h => h) (Or.inl ⟨by rfl, ?hyc9⟩) (by assumption) ?restc9
      case hyc9 =>
        intro W hSw
        (try dsimp only at hSw)
        go_simp
      try simp only [Act.put, List.setIfInBounds_toArray, List.set_cons_zero, List.set_cons_succ]
      refine take_at (i := 10) (v := .bool true) (d := some 49) rfl rfl (by kernel_rfl) (by kernel_rfl) (by kernel_rfl) (fun _ _ _ h => h) (Or.inl ⟨by rfl, ?hyc10⟩) (by assumption) ?restc10
      case hyc10 =>
        intro W hSw
        (try dsimp only at hSw)
        go_simp
      try simp only [Act.put, List.setIfInBounds_toArray, List.set_cons_zero, List.set_cons_succ]
      refine take_at (i := 11) (v := .pointer (some ⟨w7.heap.size, 1, none⟩)) (d := some 50) rfl rfl (by kernel_rfl) (by kernel_rfl) (by kernel_rfl) (fun _ _ _ h => h) (Or.inl ⟨by rfl, ?hyc11⟩) (by assumption) ?restc11
      case hyc11 =>
        intro W hSw
        (try dsimp only at hSw)
        go_simp
      try simp only [Act.put, List.setIfInBounds_toArray, List.set_cons_zero, List.set_cons_succ]
      refine take_at (i := 12) (v := .int .i64 n5) (d := some 51) rfl rfl (by kernel_rfl) (by kernel_rfl) (by kernel_rfl) (fun _ _ _ h => h) (Or.inl ⟨by rfl, ?hyc12⟩) (by assumption) ?restc12
      case hyc12 =>
        intro W hSw
        (try dsimp only at hSw)
        go_simp
      try simp only [Act.put, List.setIfInBounds_toArray, List.set_cons_zero, List.set_cons_succ]
      refine take_at (i := 13) (v := .int .i64 idx) (d := some 52) rfl rfl (by kernel_rfl) (by kernel_rfl) (by kernel_rfl) (fun _ _ _ h => h) (Or.inl ⟨by rfl, ?hyc13⟩) (by assumption) ?restc13
      case hyc13 =>
        intro W hSw
        (try dsimp only at hSw)
        go_simp
      try simp only [Act.put, List.setIfInBounds_toArray, List.set_cons_zero, List.set_cons_succ]
      refine take_at (i := 14) (v := .bool false) (d := some 53) rfl rfl (by kernel_rfl) (by kernel_rfl) (by kernel_rfl) (fun _ _ _ h => h) (Or.inl ⟨by rfl, ?hyc14⟩) (by assumption) ?restc14
      case hyc14 =>
        intro W hSw
        (try dsimp only at hSw)
        go_simp
      try simp only [Act.put, List.setIfInBounds_toArray, List.set_cons_zero, List.set_cons_succ]
      refine take_at (i := 15) (v := .bool false) (d := some 54) rfl rfl (by kernel_rfl) (by kernel_rfl) (by kernel_rfl) (fun _ _ _ h => h) (Or.inl ⟨by rfl, ?hyc15⟩) (by assumption) ?restc15
      case hyc15 =>
        intro W hSw
        (try dsimp only at hSw)
        go_simp
      try simp only [Act.put, List.setIfInBounds_toArray, List.set_cons_zero, List.set_cons_succ]
      refine wpAnyH_ready (rs := [16]) (by kernel_rfl) (by simp) ?_
      refine AllReadyH.cons rfl (fun K hK => ?_) AllReadyH.nil
      go_simp
      (try go_wp2_with fail)
      refine hK.out _ _ ⟨f0, f1, f2, f3⟩ (fun hHeld => ?_)
      clear hK K
      try simp only [Act.put, List.setIfInBounds_toArray, List.set_cons_zero, List.set_cons_succ]
      refine take_at (i := 17) (v := .bool false) (d := some 9) rfl rfl (by kernel_rfl) (by kernel_rfl) (by kernel_rfl) (fun _ _ _ h => h) (Or.inl ⟨by rfl, ?hyc17⟩) (by assumption) ?restc17
      case hyc17 =>
        intro W hSw
        (try dsimp only at hSw)
        go_simp
      try simp only [Act.put, List.setIfInBounds_toArray, List.set_cons_zero, List.set_cons_succ]
      refine wpAnyH_done (by kernel_rfl) ?_ _
      go_wp2_with fail
      (try simp only [Exit.inBlock, Exit.then])
      refine ret2_pc (cs := Pc.cs ⟨n4, n5, n6, n7, d9⟩) rfl rfl rfl rfl rfl HGZ.out ?_
      refine ⟨⟨⟨n4, n5, n6, n7, d9⟩, by rw [HRr.out]; rfl, fun q hq => by rw [HRr.out] at hq; cases hq⟩, HBZ.out⟩
    · have g1 : 0 < l9.length := by omega
      have g2 : decide ((0 : Int) < (l9.length : Int)) = true := by simp; omega
      subst h2
      subst h3
      have g3 : ((n4 : Int) == (n4 : Int)) = true := by simp
      have g4 : ((n5 : Int) == (n5 : Int)) = true := by simp
      clear h1
      refine wp_region_held_drew (S := fun w' => (loadPc ⟨w7.heap.size, 0, none⟩).run Tryz.prog w' = .ok (.agg (Pc.cs ⟨n4, n5, n6, n7, d9⟩)) w' ∧ w'.cell? ⟨w7.heap.size, 0, none⟩ = some (.int .i64 n4) ∧ w'.cell? ⟨w7.heap.size, 1, none⟩ = some (.int .i64 n5) ∧ w'.cell? ⟨w2.heap.size, 0, none⟩ = some (.pointer (some ⟨w1.heap.size, 0, none⟩))) (by kernel_rfl) ⟨ld, c0, c1, hcd⟩ (fun hHeld => ?_)
      refine take_at (i := 0) (v := .agg (Pc.cs ⟨n4, n5, n6, n7, d9⟩)) (d := some 39) rfl rfl (by kernel_rfl) (by kernel_rfl) (by kernel_rfl) (fun _ _ _ h => h) (Or.inl ⟨by rfl, ?hyd0⟩) (by assumption) ?restd0
      case hyd0 =>
        intro W hSw
        (try dsimp only at hSw)
        go_simp
      try simp only [Act.put, List.setIfInBounds_toArray, List.set_cons_zero, List.set_cons_succ]
      refine take_at (i := 1) (v := .pointer (some ⟨w1.heap.size, 0, none⟩)) (d := some 40) rfl rfl (by kernel_rfl) (by kernel_rfl) (by kernel_rfl) (fun _ _ _ h => h) (Or.inl ⟨by rfl, ?hyd1⟩) (by assumption) ?restd1
      case hyd1 =>
        intro W hSw
        (try dsimp only at hSw)
        go_simp
      try simp only [Act.put, List.setIfInBounds_toArray, List.set_cons_zero, List.set_cons_succ]
      refine wpAnyH_ready (rs := [2]) (by kernel_rfl) (by simp) ?_
      refine AllReadyH.cons rfl (fun K hK => ?_) AllReadyH.nil
      go_simp
      refine HLf.out.mono ?_
      rintro e w11 ⟨rfl, rfl⟩
      (try go_wp2_with fail)
      refine hK.out _ _ ⟨ld, c0, c1, hcd⟩ (fun hHeld => ?_)
      clear hK K
      try simp only [Act.put, List.setIfInBounds_toArray, List.set_cons_zero, List.set_cons_succ]
      refine take_at (i := 3) (v := .bool true) (d := some 42) rfl rfl (by kernel_rfl) (by kernel_rfl) (by kernel_rfl) (fun _ _ _ h => h) (Or.inl ⟨by rfl, ?hyd3⟩) (by assumption) ?restd3
      case hyd3 =>
        intro W hSw
        (try dsimp only at hSw)
        go_simp
      try simp only [Act.put, List.setIfInBounds_toArray, List.set_cons_zero, List.set_cons_succ]
      refine take_at (i := 4) (v := .bool true) (d := some 43) rfl rfl (by kernel_rfl) (by kernel_rfl) (by kernel_rfl) (fun _ _ _ h => h) (Or.inl ⟨by rfl, ?hyd4⟩) (by assumption) ?restd4
      case hyd4 =>
        intro W hSw
        (try dsimp only at hSw)
        go_simp
      try simp only [Act.put, List.setIfInBounds_toArray, List.set_cons_zero, List.set_cons_succ]
      refine take_at (i := 5) (v := .pointer (some ⟨w7.heap.size, 0, none⟩)) (d := some 44) rfl rfl (by kernel_rfl) (by kernel_rfl) (by kernel_rfl) (fun _ _ _ h => h) (Or.inl ⟨by rfl, ?hyd5⟩) (by assumption) ?restd5
      case hyd5 =>
        intro W hSw
        (try dsimp only at hSw)
        go_simp
      try simp only [Act.put, List.setIfInBounds_toArray, List.set_cons_zero, List.set_cons_succ]
      refine take_at (i := 6) (v := .int .i64 n4) (d := some 45) rfl rfl (by kernel_rfl) (by kernel_rfl) (by kernel_rfl) (fun _ _ _ h => h) (Or.inl ⟨by rfl, ?hyd6⟩) (by assumption) ?restd6
      case hyd6 =>
        intro W hSw
        (try dsimp only at hSw)
        go_simp
      try simp only [Act.put, List.setIfInBounds_toArray, List.set_cons_zero, List.set_cons_succ]
      refine take_at (i := 7) (v := .int .i64 n4) (d := some 46) rfl rfl (by kernel_rfl) (by kernel_rfl) (by kernel_rfl) (fun _ _ _ h => h) (Or.inl ⟨by rfl, ?hyd7⟩) (by assumption) ?restd7
      case hyd7 =>
        intro W hSw
        (try dsimp only at hSw)
        go_simp
      try simp only [Act.put, List.setIfInBounds_toArray, List.set_cons_zero, List.set_cons_succ]
      refine take_at (i := 8) (v := .bool true) (d := some 47) rfl rfl (by kernel_rfl) (by kernel_rfl) (by kernel_rfl) (fun _ _ _ h => h) (Or.inl ⟨by rfl, ?hyd8⟩) (by assumption) ?restd8
      case hyd8 =>
        intro W hSw
        (try dsimp only at hSw)
        go_simp
      try simp only [Act.put, List.setIfInBounds_toArray, List.set_cons_zero, List.set_cons_succ]
      refine take_at (i := 9) (v := .bool true) (d := some 48) rfl rfl (by kernel_rfl) (by kernel_rfl) (by kernel_rfl) (fun _ _ _ h => h) (Or.inl ⟨by rfl, ?hyd9⟩) (by assumption) ?restd9
      case hyd9 =>
        intro W hSw
        (try dsimp only at hSw)
        go_simp
      try simp only [Act.put, List.setIfInBounds_toArray, List.set_cons_zero, List.set_cons_succ]
      refine take_at (i := 10) (v := .bool true) (d := some 49) rfl rfl (by kernel_rfl) (by kernel_rfl) (by kernel_rfl) (fun _ _ _ h => h) (Or.inl ⟨by rfl, ?hyd10⟩) (by assumption) ?restd10
      case hyd10 =>
        intro W hSw
        (try dsimp only at hSw)
        go_simp
      try simp only [Act.put, List.setIfInBounds_toArray, List.set_cons_zero, List.set_cons_succ]
      refine take_at (i := 11) (v := .pointer (some ⟨w7.heap.size, 1, none⟩)) (d := some 50) rfl rfl (by kernel_rfl) (by kernel_rfl) (by kernel_rfl) (fun _ _ _ h => h) (Or.inl ⟨by rfl, ?hyd11⟩) (by assumption) ?restd11
      case hyd11 =>
        intro W hSw
        (try dsimp only at hSw)
        go_simp
      try simp only [Act.put, List.setIfInBounds_toArray, List.set_cons_zero, List.set_cons_succ]
      refine take_at (i := 12) (v := .int .i64 n5) (d := some 51) rfl rfl (by kernel_rfl) (by kernel_rfl) (by kernel_rfl) (fun _ _ _ h => h) (Or.inl ⟨by rfl, ?hyd12⟩) (by assumption) ?restd12
      case hyd12 =>
        intro W hSw
        (try dsimp only at hSw)
        go_simp
      try simp only [Act.put, List.setIfInBounds_toArray, List.set_cons_zero, List.set_cons_succ]
      refine take_at (i := 13) (v := .int .i64 n5) (d := some 52) rfl rfl (by kernel_rfl) (by kernel_rfl) (by kernel_rfl) (fun _ _ _ h => h) (Or.inl ⟨by rfl, ?hyd13⟩) (by assumption) ?restd13
      case hyd13 =>
        intro W hSw
        (try dsimp only at hSw)
        go_simp
      try simp only [Act.put, List.setIfInBounds_toArray, List.set_cons_zero, List.set_cons_succ]
      refine take_at (i := 14) (v := .bool true) (d := some 53) rfl rfl (by kernel_rfl) (by kernel_rfl) (by kernel_rfl) (fun _ _ _ h => h) (Or.inl ⟨by rfl, ?hyd14⟩) (by assumption) ?restd14
      case hyd14 =>
        intro W hSw
        (try dsimp only at hSw)
        go_simp
      try simp only [Act.put, List.setIfInBounds_toArray, List.set_cons_zero, List.set_cons_succ]
      refine take_at (i := 15) (v := .bool true) (d := some 54) rfl rfl (by kernel_rfl) (by kernel_rfl) (by kernel_rfl) (fun _ _ _ h => h) (Or.inl ⟨by rfl, ?hyd15⟩) (by assumption) ?restd15
      case hyd15 =>
        intro W hSw
        (try dsimp only at hSw)
        go_simp
      try simp only [Act.put, List.setIfInBounds_toArray, List.set_cons_zero, List.set_cons_succ]
      refine wpAnyH_ready (rs := [16]) (by kernel_rfl) (by simp) ?_
      refine AllReadyH.cons rfl (fun K hK => ?_) AllReadyH.nil
      go_simp
      (try go_wp2_with fail)
      refine hK.out _ _ ⟨f0, f1, f2, f3⟩ (fun hHeld => ?_)
      clear hK K
      try simp only [Act.put, List.setIfInBounds_toArray, List.set_cons_zero, List.set_cons_succ]
      refine take_at (i := 17) (v := .bool true) (d := some 9) rfl rfl (by kernel_rfl) (by kernel_rfl) (by kernel_rfl) (fun _ _ _ h => h) (Or.inl ⟨by rfl, ?hyd17⟩) (by assumption) ?restd17
      case hyd17 =>
        intro W hSw
        (try dsimp only at hSw)
        go_simp
      try simp only [Act.put, List.setIfInBounds_toArray, List.set_cons_zero, List.set_cons_succ]
      refine wpAnyH_done (by kernel_rfl) ?_ _
      go_wp2_with fail
      (try simp only [Exit.inBlock, Exit.then])
      refine ret2_pc (cs := Pc.cs ⟨n4, n5, n6, n7, d9⟩) rfl rfl rfl rfl rfl HGZ.out ?_
      refine ⟨⟨⟨n4, n5, n6, n7, d9⟩, by rw [HRr.out]; rfl, fun q hq => by rw [HRr.out] at hq; cases hq; rfl⟩, HBZ.out⟩
end
end

end Go.Proofs.YtjpkdhnponcciaaGreatDoor

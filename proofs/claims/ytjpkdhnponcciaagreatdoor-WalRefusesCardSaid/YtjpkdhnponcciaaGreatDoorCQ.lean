/-
  Walks: a pair of new stores with an empty log. Condition: 16 to 4096 sectors.
  Walks: few acts; an act; all that a log has. Condition: the log stands, both copies hold the same records.
-/
import Derived.Test.YtjpkdhnponcciaaGreatDoorCP
import Derived.Test.YtjpkdhnponcciaaGreatDoorCK
namespace Go.Proofs.YtjpkdhnponcciaaGreatDoor

section
open Go.RowKit Go.Sort

theorem freshH_s (n : Nat) (h1 : 16 ≤ n) (h2 : n ≤ 4096) : (freshH n).s.length = 128 := sectL_len _ (by have := (freshH n).b_len (freshH_ok h1 h2); omega)
theorem fresh_ok (n : Nat) (h1 : 16 ≤ n) (h2 : n ≤ 4096) : LgOk (freshH n) [] := ⟨freshH_ok h1 h2, Nat.le_refl _, rfl, rfl⟩
theorem fresh_cp (n m : Nat) (h1 : 16 ≤ n) (h2 : n ≤ 4096) (hm : n ≤ m) : ((newM m).wr [(0, (freshH n).s)]).1 = 0 ∧ CpIs (freshH n) [] ((newM m).wr [(0, (freshH n).s)]).2 ∧ Clean ((newM m).wr [(0, (freshH n).s)]).2 ∧ ((newM m).wr [(0, (freshH n).s)]).2.fuse = -1 ∧ ((newM m).wr [(0, (freshH n).s)]).2.secs.length = m := by
  have hs := freshH_s n h1 h2
  have hf : (newM m).fits [(0, (freshH n).s)] = true := by rw [fits_iff]; intro x hx; simp at hx; subst hx; exact ⟨by simp [newM]; omega, hs⟩
  have e : (newM m).wr [(0, (freshH n).s)] = (0, { (newM m).puts [(0, (freshH n).s)] with fuse := -1 }) := by
    unfold Mm.wr
    rw [if_neg (by simp [newM]), if_neg (by simp), if_pos hf]
    rfl
  rw [e]
  refine ⟨rfl, ⟨?_, ?_, fun j hj => by simp [ringW] at hj⟩, fun k => ?_, rfl, ?_⟩
  · show n ≤ ((List.replicate m (zeros 128)).set 0 _).length
    rw [List.length_set, List.length_replicate]; exact hm
  · show ((List.replicate m (zeros 128)).set 0 (freshH n).s)[0]? = some (freshH n).s
    rw [List.getElem?_set_self (by rw [List.length_replicate]; omega)]
  · simp [Mm.puts, Mm.put, newM]
  · simp [Mm.puts, Mm.put, newM]
/-- Format of a new pair. -/
theorem fresh_two (n : Nat) (h1 : 16 ≤ n) (h2 : n ≤ 4096) : ∃ A B, formV (some (newM n)) (some (newM n)) = (0, some A, some B) ∧ Log (some A) (some B) (freshH n) [] ∧ A.secs.length = n ∧ B.secs.length = n := by
  obtain ⟨e1, e2, e3, e4, e5⟩ := fresh_cp n n h1 h2 (Nat.le_refl _)
  have hl : (newM n).secs.length = n := by simp [newM]
  refine ⟨_, _, ?_, ⟨fresh_ok n h1 h2, fun M e => ?_, fun M e => ?_, by simp⟩, e5, e5⟩
  · unfold formV
    rw [if_neg (by simp)]
    have e6 : (szV 4097 (some (newM n))).bind (fun s => szV s (some (newM n))) = some n := by
      simp only [szV, hl]
      rw [if_pos ⟨h1, h2⟩]
      simp only [Option.bind_some]
      rw [if_pos ⟨h1, h2⟩]
      congr 1
      omega
    rw [e6]
    simp only [headsV, eachV]
    rw [if_neg (by rw [e1]; simp), e1]
  · cases e; exact ⟨e2, e3, e4⟩
  · cases e; exact ⟨e2, e3, e4⟩
set_option maxRecDepth 100000 in
set_option maxHeartbeats 4000000 in
theorem pair_w (n : Nat) (h1 : 16 ≤ n) (h2 : n ≤ 4096) (w : World) : Calls Tryz.prog 13 #[.int .i64 n] w fun e w' =>
    ∃ (lb : Nat) (ka kb : Bk) (A B : Mm), e = .returned (.tuple #[memV ka.p, memV kb.p, .pointer (some ⟨lb, 0, none⟩), .bool true]) ∧ LgAt w' lb ka kb (some A) (some B) ∧ Log (some A) (some B) (freshH n) [] ∧ A.secs.length = n ∧ B.secs.length = n ∧
      (∀ x, x ∈ ka.s ∨ x ∈ kb.s → w.heap.size ≤ x) ∧ w.heap.size ≤ lb ∧ Below w.heap.size w w' := by
  go_enter Tryz.func13, Tryz.ntmps13
  go_wp2_with fail
  refine (newmem_w n ⟨by omega, by omega⟩ _).mono ?_
  rintro e w1 ⟨ka, rfl, hA, ha1, ha2, ha3, hb1⟩
  have HA := Lib.hid hA
  have HB1 := Lib.hid hb1
  clear hA hb1
  go_wp2_with fail
  refine (newmem_w n ⟨by omega, by omega⟩ _).mono ?_
  rintro e w2 ⟨kb, rfl, hB, hc1, hc2, hc3, hb2⟩
  have hs1 := HB1.out.size
  have hSt : StAt w2 ka kb (some (newM n)) (some (newM n)) := by
    have hl := HA.out.lt
    have hl2 := hB.lt
    have hs2 := hb2.size
    refine ⟨fun M e => by cases e; exact HA.out.below hb2, fun M e => by cases e; exact hB, fun x hx hm => ?_, fun x hx => ?_⟩
    · simp only [Bk.s, List.mem_cons, List.not_mem_nil, or_false] at hx hm
      omega
    · simp only [Bk.s, List.mem_cons, List.not_mem_nil, or_false] at hx
      omega
  have HSt := Lib.hid hSt
  have HBk := Lib.hid (show ∀ x, x ∈ ka.s ∨ x ∈ kb.s → w.heap.size ≤ x from fun x hx => by
    simp only [Bk.s, List.mem_cons, List.not_mem_nil, or_false] at hx
    omega)
  have HB2 := Lib.hid (HB1.out.trans (hb2.mono hs1))
  have HFm := Lib.hid (form_ss w2 ka kb (newM n) (newM n) (fun W hb => sectors_w W ka (newM n) ((hSt.a _ rfl).below hb)) (by simp [newM]; omega) (fun W hb => sectors_w W kb (newM n) ((hSt.b _ rfl).below hb)) (by simp [newM]; omega) (fun _ _ => hSt))
  obtain ⟨A, B, hf, hL, hla, hlb⟩ := fresh_two n h1 h2
  rw [hf] at HFm
  have HL := Lib.hid hL
  have HLa := Lib.hid (And.intro hla hlb)
  clear hB hc1 hc2 hc3 hb2 hs1 hSt hf hL hla hlb ha1 ha2 ha3
  go_wp2_with fail
  refine HFm.out.mono ?_
  rintro e w3 ⟨rfl, hst3, ho3⟩
  have hst3 := hst3 (by simp)
  have HOp := Lib.hid (open2_w w3 ka kb (some A) (some B) hst3 HL.out.bgH)
  rw [HL.out.begin] at HOp
  have HO3 := Lib.hid (show Below w.heap.size w w3 from HB2.out.trans (ho3.below HB2.out.size (fun x hx => HBk.out x (fS_mem hx))))
  clear hst3 ho3
  go_wp2_with fail
  refine HOp.out.mono ?_
  rintro e w4 ⟨rfl, hL4, ho4⟩
  have HL4 := Lib.hid hL4
  have HO4 := Lib.hid (show Below w.heap.size w w4 from HO3.out.trans (ho4.below HO3.out.size (fun x hx => HBk.out x (fS_mem hx))))
  clear hL4 ho4
  go_wp2_with fail
  refine bodyPost_ret (v := .tuple #[memV ka.p, memV kb.p, .pointer (some ⟨w3.heap.size, 0, none⟩), .bool true]) (by simp [results, Tryz.f13, go_sem]) rfl ?_
  exact ⟨_, ka, kb, A, B, rfl, HL4.out, HL.out, HLa.out.1, HLa.out.2, HBk.out, HO3.out.size, HO4.out⟩
end

section
open Go.RowKit Go.Sort

/-- An act in memory. -/
structure AcV where
  kind : Int
  n : Int
  unit : Int
  a : Option Addr
  cap : Nat
  l : List Ch
abbrev AcV.cs (x : AcV) : Array Value := #[.int .i64 x.kind, .int .i64 x.n, .int .i64 x.unit, .slice x.a x.l.length x.cap]
theorem info_ac : (Tryz.prog.info? 35).map (·.size) = some 4 := by kernel_rfl
def loadAc (p : Addr) : Sem Value := loadVar 35 p
theorem loadAc_down (p : Addr) : loadVar 35 p = loadAc p := rfl
theorem loadAc_at {w : World} {g : Nat} {cs : Array Value} {t : TypeId} {fr : Nat × Nat} (hg : w.heap[g]? = some (.cells cs t fr)) (hi : cs.size = 4) : (loadAc ⟨g, 0, none⟩).run Tryz.prog w = .ok (.agg cs) w :=
  run_loadVar_row (P := Tryz.prog) w g t 35 cs fr _ hg Tryz.underlying35 rfl (by rw [info_ac, hi])
def storeAc (p : Addr) (v : Value) : Sem Unit := storeVar 35 p v
theorem storeAc_down (p : Addr) (v : Value) : storeVar 35 p v = storeAc p v := rfl
theorem storeAc_at {w : World} {g : Nat} {cs : Array Value} {t : TypeId} {old : Array Value} (hg : w.heap[g]? = some (.cells old t (0, 0))) (hi : cs.size = 4) (ho : old.size = 4) (h1 : cs.all (·.oneCell') = true) : (storeAc ⟨g, 0, none⟩ (.agg cs)).run Tryz.prog w = .ok () (w.setRow g cs) :=
  run_storeVar_row (P := Tryz.prog) w g t 35 old cs hg (by rw [info_ac, hi]) (by rw [ho, hi]) h1
abbrev acZ : Array Value := #[.int .i64 0, .int .i64 0, .int .i64 0, .slice none 0 0]
theorem put_ac (w : World) (x : AcV) : ∃ W, (storeAc ⟨w.heap.size, 0, none⟩ (.agg x.cs)).run Tryz.prog (w.alloc (.cells acZ 35)) = .ok () W ∧ W.heap[w.heap.size]? = some (.cells x.cs 35 (0, 0)) ∧ Below w.heap.size w W := by
  have hz := heap_alloc_new w (.cells acZ 35)
  exact ⟨_, storeAc_at hz rfl rfl (by simp [Value.oneCell']), setRow_heap _ _ _ _ _ _ hz, below_setRow (box_below0 w acZ 35) (Nat.le_refl _) _⟩
def AcAt (w : World) (b o : Nat) (x : AcV) : Prop := ∀ (j : Nat) (v : Value), x.cs.toList[j]? = some v → w.cell? ⟨b, o + j, none⟩ = some v
theorem AcAt.load {w : World} {b o : Nat} {x : AcV} (h : AcAt w b o x) : (loadAc ⟨b, o, none⟩).run Tryz.prog w = .ok (.agg x.cs) w :=
  run_loadVar_mid (P := Tryz.prog) w b o 35 x.cs.toList _ (fun j v hj => h j v hj) Tryz.underlying35 rfl (by rw [info_ac]; rfl)
theorem AcAt.below {w w' : World} {b o B : Nat} {x : AcV} (h : AcAt w b o x) (hb : Below B w w') (hB : b < B) : AcAt w' b o x :=
  fun j v hj => (hb.cell (p := ⟨b, o + j, none⟩) hB).trans (h j v hj)
/-- Acts in memory, below block B. -/
structure Acts (w : World) (B : Nat) (a : Option Addr) (l : List AcV) : Prop where
  cells : l ≠ [] → ∃ b off, a = some ⟨b, off, none⟩ ∧ b < B ∧ ∀ i (h : i < l.length), AcAt w b (off + i * 4) l[i]
  chs : ∀ x ∈ l, Chs w B x.a x.l ∧ x.l.length ≤ x.cap ∧ x.cap ≤ maxLen
theorem Acts.below {w w' : World} {B a l} (h : Acts w B a l) (hb : Below B w w') : Acts w' B a l :=
  ⟨fun hl => by
    obtain ⟨b, off, h1, h2, h3⟩ := h.cells hl
    exact ⟨b, off, h1, h2, fun i hi => (h3 i hi).below hb h2⟩, fun x hx => ⟨(h.chs x hx).1.below hb, (h.chs x hx).2⟩⟩
theorem Acts.get {w : World} {B a l} (h : Acts w B a l) {i : Nat} (hi : i < l.length) : ∃ b off, a = some ⟨b, off, none⟩ ∧ b < B ∧ AcAt w b (off + i * 4) l[i] := by
  obtain ⟨b, off, h1, h2, h3⟩ := h.cells (fun e => by rw [e] at hi; simp at hi)
  exact ⟨b, off, h1, h2, h3 i hi⟩
/-- Whether acts are few and small. -/
def fewA (m : Nat) (l : List AcV) : Bool := decide (l.length ≤ m) && l.all fun x => fewR 20 x.l
section
attribute [local go_sem ↓] loadLr_down storeLr_down loadAc_down storeAc_down
set_option maxRecDepth 100000 in
set_option maxHeartbeats 4000000 in
theorem few48_any (m : Nat) (w : World) (B : Nat) (a : Option Addr) (cap : Nat) (l : List AcV) (h : Acts w B a l) (hB : B ≤ w.heap.size) (hm : m ≤ 1000) :
    Calls Tryz.prog 11 #[.slice a l.length cap, .int .i64 m] w fun e w' => e = .returned (.bool (fewA m l)) ∧ Below w.heap.size w w' := by
  have HL := Lib.hid h
  have HF := Lib.hid (show fewA m l = (decide (l.length ≤ m) && l.all fun x => fewR 20 x.l) from rfl)
  generalize fewA m l = q at HF ⊢
  clear h
  by_cases hlm : l.length ≤ m
  · have hlI : ¬ (m : Int) < (l.length : Int) := by omega
    go_enter Tryz.func11, Tryz.ntmps11
    go_wp2_with fail
    go_loopw [13] (fun k wr => ∃ j : Nat, j ≤ l.length ∧ k = .int .i64 j ∧ Below w.heap.size w wr ∧ ∀ i (hi : i < l.length), i < j → fewR 20 l[i].l = true) (fun k _ => l.length - (intOf k).toNat)
    case atStart => exact ⟨0, by omega, rfl, Below.refl _ _, fun i hi h => absurd h (by omega)⟩
    case round =>
      obtain ⟨j, hj, rfl, hb, hA⟩ := hrel
      have HB := Lib.hid hb
      have HA := Lib.hid hA
      clear hb hA
      by_cases hlt : j < l.length
      · have jI : (j : Int) < (l.length : Int) := by omega
        obtain ⟨b, off, rfl, hbb, hat⟩ := HL.out.get hlt
        have ld := (hat.below (HB.out.mono hB) hbb).load
        have HCH := Lib.hid (HL.out.chs _ (List.getElem_mem hlt)).1
        have hstep : fewR 20 l[j].l = true → ∀ i (hi : i < l.length), i < j + 1 → fewR 20 l[i].l = true := fun h i hi h2 => by
          rcases Nat.lt_or_ge i j with h3 | h3
          · exact HA.out i hi h3
          · have e : i = j := by omega
            subst e; exact h
        have hno : fewR 20 l[j].l = false → q = false := fun h => by
          rw [HF.out]
          have : (l.all fun x => fewR 20 x.l) = false := by rw [List.all_eq_false]; exact ⟨l[j], List.getElem_mem hlt, by rw [h]; simp⟩
          rw [this]; simp
        clear hat
        generalize l[j] = x at ld HCH hstep hno
        obtain ⟨kind, num, unit, xa, xc, L⟩ := x
        simp only at HCH hstep hno
        obtain ⟨w1, hst1, hw1, hb1⟩ := put_ac wr ⟨kind, num, unit, xa, xc, L⟩
        have HB1 := Lib.hid (HB.out.trans (hb1.mono HB.out.size))
        have lc1 : w1.cell? ⟨wr.heap.size, 3, none⟩ = some (.slice xa L.length xc) := cell_at hw1 rfl
        have HFW := Lib.hid (few47_any 20 w1 B xa xc L 0 0 (HCH.out.below (HB1.out.mono hB)) (Nat.le_trans hB HB1.out.size) (by omega))
        clear hw1 hb1
        cases hf : fewR 20 L with
        | true =>
          rw [hf] at HFW
          have HS := Lib.hid (hstep hf)
          clear hstep hno hf
          go_wp2_with fail
          refine HFW.out.mono ?_
          rintro e w2 ⟨rfl, hb2⟩
          have HB2 := Lib.hid (HB1.out.trans (hb2.mono HB1.out.size))
          clear hb2 lc1 ld hst1
          go_wp2_with fail
          go_roundw
          case rel => exact ⟨j + 1, by omega, by go_num, HB2.out, HS.out⟩
          case measure => simp [intOf]; omega
        | false =>
          rw [hf] at HFW
          have HQ := Lib.hid (hno hf)
          clear hstep hno hf
          go_wp2_with fail
          refine HFW.out.mono ?_
          rintro e w2 ⟨rfl, hb2⟩
          have HB2 := Lib.hid (HB1.out.trans (hb2.mono HB1.out.size))
          clear hb2 lc1 ld hst1
          go_wp2_with fail
          go_ret
          exact ⟨by rw [HQ.out]; rfl, HB2.out⟩
      · have jI : ¬ (j : Int) < (l.length : Int) := by omega
        have HQ := Lib.hid (show q = true by
          rw [HF.out]
          have : (l.all fun x => fewR 20 x.l) = true := by
            rw [List.all_eq_true]
            intro p hp
            obtain ⟨i, hi, rfl⟩ := List.getElem_of_mem hp
            exact HA.out i hi (by omega)
          rw [this]; simp [hlm])
        go_wp2_with fail
        go_ret
        exact ⟨by rw [HQ.out]; rfl, HB.out⟩
  · have hlI : (m : Int) < (l.length : Int) := by omega
    have HQ := Lib.hid (show q = false by rw [HF.out]; simp [hlm])
    go_enter Tryz.func11, Tryz.ntmps11
    go_wp2_with fail
    go_ret
    exact ⟨by rw [HQ.out]; rfl, Below.refl _ _⟩
end
/-! ### An act -/
theorem append_l {w : World} {lb : Nat} {ka kb : Bk} {A B : Cp} {h : Hw} {R : List Rc} (hL : LgAt w lb ka kb A B) (L : Log A B h R) (unit : Int) (a : Option Addr) (cap : Nat) (l : List Ch) (hC : ChsF w (fS ka kb A B) a l) (hll : l.length ≤ 1000000) (hc : ∀ c ∈ l, ChLen c) :
    Calls Tryz.prog 38 #[.pointer (some ⟨lb, 0, none⟩), .int .i64 unit, .slice a l.length cap] w fun e w' => ∃ A' B' g S n er, e = .returned (.tuple #[.int .i64 n, .int .i64 er]) ∧ LgAt w' lb ka kb A' B' ∧ Log A' B' g S ∧
      (n, er) = (if (Rc.mk h.next unit l).sound = false then (0, 1) else if 16384 < (Rc.mk h.next unit l).b.length then (0, 8) else if h.free < cntW (Rc.mk h.next unit l).b.length then (0, 14) else ((h.next : Int), 0)) ∧ g.n = h.n ∧ g.first = h.first ∧
      (g, S) = (if (Rc.mk h.next unit l).valid = true ∧ cntW (Rc.mk h.next unit l).b.length ≤ h.free then (h.more ⟨h.next, unit, l⟩, R ++ [⟨h.next, unit, l⟩]) else (h, R)) ∧ A'.isNone = A.isNone ∧ B'.isNone = B.isNone ∧ Only (fS ka kb A B) w w' := by
  have := append_w w lb ka kb A B unit a cap 0 l hL L.bgH (fun _ => by rw [L.begin]; exact L.fit) hC hll hc
  obtain ⟨A', B', g, S, e1, h1, h2, h3, h4, h5, h6⟩ := L.append unit l
  rw [e1] at this
  exact this.mono (fun e w' k => ⟨A', B', g, S, _, _, k.1, k.2.1, h1, rfl, h2, h3, h4, h5, h6, k.2.2⟩)
/-- What an act does: the number, the records, the error, the log behind it. -/
def DoR (h : Hw) (R : List Rc) (x : AcV) (g : Hw) (S : List Rc) (n : Int) (X : List Rc) (er : Int) : Prop :=
  (x.kind.tmod 3 = 1 ∧ n = 0 ∧ X = [] ∧ er = 0 ∧ S = R.dropWhile (fun r => decide (r.last ≤ x.n)) ∧ g.n = h.n ∧ g.next = h.next) ∨
  (x.kind.tmod 3 = 2 ∧ n = 0 ∧ g = h ∧ S = R ∧ er = (if max x.n 1 < (h.first : Int) then 18 else 0) ∧ X = (if max x.n 1 < (h.first : Int) then [] else keepR x.n R)) ∨
  (¬ x.kind.tmod 3 = 1 ∧ ¬ x.kind.tmod 3 = 2 ∧ X = [] ∧ (n, er) = (if (Rc.mk h.next x.unit x.l).sound = false then (0, 1) else if 16384 < (Rc.mk h.next x.unit x.l).b.length then (0, 8) else if h.free < cntW (Rc.mk h.next x.unit x.l).b.length then (0, 14) else ((h.next : Int), 0)) ∧ g.n = h.n ∧ g.first = h.first ∧
    (g, S) = (if (Rc.mk h.next x.unit x.l).valid = true ∧ cntW (Rc.mk h.next x.unit x.l).b.length ≤ h.free then (h.more ⟨h.next, x.unit, x.l⟩, R ++ [⟨h.next, x.unit, x.l⟩]) else (h, R)))
theorem LrsAt.nil (w : World) (base : Nat) : LrsAt w base (.slice none 0 0) [] := ⟨RowE.nil _ _, fun x hx => by cases hx⟩
section
attribute [local go_sem ↓] loadLr_down storeLr_down loadAc_down storeAc_down
set_option maxRecDepth 100000 in
set_option maxHeartbeats 4000000 in
theorem do_w {w : World} {lb : Nat} {ka kb : Bk} {A B : Cp} {h : Hw} {R : List Rc} (hL : LgAt w lb ka kb A B) (L : Log A B h R) (x : AcV) (hi : I64 x.kind ∧ I64 x.n) (hC : ChsF w (fS ka kb A B) x.a x.l) (hll : x.l.length ≤ 1000000) (hc : ∀ c ∈ x.l, ChLen c) :
    Calls Tryz.prog 15 #[.pointer (some ⟨lb, 0, none⟩), .agg x.cs] w fun e w' => ∃ A' B' g S n v X er, e = .returned (.tuple #[.int .i64 n, v, .int .i64 er]) ∧ LgAt w' lb ka kb A' B' ∧ Log A' B' g S ∧ DoR h R x g S n (X.map Lr.rc) er ∧ LrsAt w' w.heap.size v X ∧
      A'.isNone = A.isNone ∧ B'.isNone = B.isNone ∧ Only (fS ka kb A B) w w' := by
  obtain ⟨w1, hw1⟩ : ∃ w1, w1 = w.alloc (.cells x.cs 35) := ⟨_, rfl⟩
  have hg1 : w1.heap[w.heap.size]? = some (.cells x.cs 35 (0, 0)) := by rw [hw1]; exact heap_alloc_new _ _
  have hb1 : Below w.heap.size w w1 := by rw [hw1]; exact box_below0 _ _ _
  have HL1 := Lib.hid (hL.below hb1)
  have HC1 := Lib.hid (hC.below hb1)
  have HB1 := Lib.hid hb1
  have HLL := Lib.hid hll
  have HCl := Lib.hid hc
  have HW := Lib.hid hw1
  obtain ⟨kind, num, unit, a, cap, l⟩ := x
  simp only at hi HC1 HLL HCl
  have c0 : w1.cell? ⟨w.heap.size, 0, none⟩ = some (.int .i64 kind) := cell_at hg1 rfl
  have c1 : w1.cell? ⟨w.heap.size, 1, none⟩ = some (.int .i64 num) := cell_at hg1 rfl
  have c2 : w1.cell? ⟨w.heap.size, 2, none⟩ = some (.int .i64 unit) := cell_at hg1 rfl
  have c3 : w1.cell? ⟨w.heap.size, 3, none⟩ = some (.slice a l.length cap) := cell_at hg1 rfl
  have hw3 : IntKind.i64.wrap (kind.tmod 3) = kind.tmod 3 := by
    have h1 := Int.tmod_lt_of_pos kind (show (0 : Int) < 3 by omega)
    have h2 : -3 < kind.tmod 3 := by
      rcases Int.le_total 0 kind with h | h
      · have := Int.tmod_nonneg 3 h; omega
      · have e : kind.tmod 3 = -((-kind).tmod 3) := by rw [Int.neg_tmod]; omega
        have := Int.tmod_lt_of_pos (-kind) (show (0 : Int) < 3 by omega)
        omega
    exact IntWalk.i64_in _ (by omega)
  clear hw1 hg1 hb1 hL hC hll hc
  by_cases h1 : kind.tmod 3 = 1
  · have HT := Lib.hid (trim_l HL1.out L num hi.2)
    have HQ := Lib.hid h1
    go_enter Tryz.func15, Tryz.ntmps15
    go_upto_region 1 with fail
    rw [← HW.out]
    go_wp2_with fail
    refine HT.out.mono ?_
    rintro e w2 ⟨A', B', g, rfl, hL2, L2, hn, hx, na, nb, ho⟩
    have HR := Lib.hid (And.intro hL2 (And.intro L2 (And.intro (And.intro hn hx) (And.intro (And.intro na nb) ho))))
    clear hL2 L2 hn hx na nb ho
    go_wp2_with fail
    refine bodyPost_ret (v := .tuple #[.int .i64 0, .slice none 0 0, .int .i64 0]) (by simp [results, Tryz.f15, go_sem]) rfl ?_
    obtain ⟨r1, r2, ⟨r3, r4⟩, ⟨r5, r6⟩, r7⟩ := HR.out
    exact ⟨A', B', g, _, 0, _, [], 0, rfl, r1, r2, Or.inl ⟨HQ.out, rfl, rfl, rfl, rfl, r3, r4⟩, LrsAt.nil _ _, r5, r6, (Only.of_below (S := fS ka kb A B) HB1.out).trans r7⟩
  · by_cases h2 : kind.tmod 3 = 2
    · have HT := Lib.hid (read_l HL1.out L num hi.2)
      have HQ := Lib.hid h2
      obtain ⟨er, her⟩ : ∃ er : Int, er = (if max num 1 < (h.first : Int) then 18 else 0) := ⟨_, rfl⟩
      obtain ⟨XX, hXX⟩ : ∃ XX : List Rc, XX = (if max num 1 < (h.first : Int) then [] else keepR num R) := ⟨_, rfl⟩
      rw [← her, ← hXX] at HT
      have HE := Lib.hid (And.intro her hXX)
      clear her hXX
      go_enter Tryz.func15, Tryz.ntmps15
      go_upto_region 1 with fail
      rw [← HW.out]
      go_wp2_with fail
      refine HT.out.mono ?_
      rintro e w2 ⟨⟨v, X, rfl, hX, hrow⟩, hL2, ho⟩
      have HR := Lib.hid (And.intro hL2 (And.intro ho (And.intro hX hrow)))
      clear hL2 ho hX hrow
      go_wp2_with fail
      refine bodyPost_ret (v := .tuple #[.int .i64 0, v, .int .i64 er]) (by simp [results, Tryz.f15, go_sem]) rfl ?_
      obtain ⟨r1, r2, r3, r4⟩ := HR.out
      exact ⟨A, B, h, R, 0, v, X, er, rfl, r1, L, Or.inr (Or.inl ⟨HQ.out, rfl, rfl, rfl, HE.out.1, r3.trans HE.out.2⟩), r4.mono HB1.out.size, rfl, rfl, (Only.of_below (S := fS ka kb A B) HB1.out).trans r2⟩
    · have HT := Lib.hid (append_l HL1.out L unit a cap l HC1.out HLL.out HCl.out)
      have HQ := Lib.hid (And.intro h1 h2)
      go_enter Tryz.func15, Tryz.ntmps15
      go_upto_region 1 with fail
      rw [← HW.out]
      go_wp2_with fail
      refine HT.out.mono ?_
      rintro e w2 ⟨A', B', g, S, n, er, rfl, hL2, L2, hR⟩
      have HR := Lib.hid (And.intro hL2 (And.intro L2 hR))
      clear hL2 L2 hR
      go_wp2_with fail
      refine bodyPost_ret (v := .tuple #[.int .i64 n, .slice none 0 0, .int .i64 er]) (by simp [results, Tryz.f15, go_sem]) rfl ?_
      obtain ⟨r1, r2, r3, r4, r5, r6, r7, r8, r9⟩ := HR.out
      exact ⟨A', B', g, S, n, _, [], er, rfl, r1, r2, Or.inr (Or.inr ⟨HQ.out.1, HQ.out.2, rfl, r3, r4, r5, r6⟩), LrsAt.nil _ _, r7, r8, (Only.of_below (S := fS ka kb A B) HB1.out).trans r9⟩
set_option maxRecDepth 100000 in
set_option maxHeartbeats 4000000 in
theorem whole_w {w : World} {lb : Nat} {ka kb : Bk} {A B : Cp} {h : Hw} {R : List Rc} (hL : LgAt w lb ka kb A B) (L : Log A B h R) :
    Calls Tryz.prog 19 #[.pointer (some ⟨lb, 0, none⟩)] w fun e w' => ∃ v X, e = .returned (.tuple #[.int .i64 h.first, .int .i64 h.next, .int .i64 h.free, v, .bool true]) ∧ X.map Lr.rc = R ∧ LrsAt w' w.heap.size v X ∧ LgAt w' lb ka kb A B ∧ Only (fS ka kb A B) w w' := by
  have HL := Lib.hid L
  have H1 := Lib.hid (first_l hL L)
  have hfi := L.ok.first
  have hfn := L.ok.ok.first
  have HI := Lib.hid (show I64 (h.first : Int) from i64_of (by omega) (by omega))
  have HK := Lib.hid (show (if max (h.first : Int) 1 < (h.first : Int) then (18 : Int) else 0) = 0 ∧ (if max (h.first : Int) 1 < (h.first : Int) then [] else keepR h.first R) = R from by
    rw [if_neg (by omega), if_neg (by omega)]
    exact ⟨rfl, chain_all L.ok.chain⟩)
  clear hL hfi hfn
  go_enter Tryz.func19, Tryz.ntmps19
  go_wp2_with fail
  refine H1.out.mono ?_
  rintro e w1 ⟨rfl, hL1, ho1⟩
  have H2 := Lib.hid (next_l hL1 L)
  have HO1 := Lib.hid ho1
  clear hL1 ho1 H1
  go_wp2_with fail
  refine H2.out.mono ?_
  rintro e w2 ⟨rfl, hL2, ho2⟩
  have H3 := Lib.hid (free_l hL2 L)
  have HO2 := Lib.hid (HO1.out.trans ho2)
  clear hL2 ho2 H2
  go_wp2_with fail
  refine H3.out.mono ?_
  rintro e w3 ⟨rfl, hL3, ho3⟩
  have H4 := Lib.hid (read_l hL3 L h.first HI.out)
  rw [HK.out.1, HK.out.2] at H4
  have HO3 := Lib.hid (HO2.out.trans ho3)
  clear hL3 ho3 H3
  go_wp2_with fail
  refine H4.out.mono ?_
  rintro e w4 ⟨⟨v, X, rfl, hX, hrow⟩, hL4, ho4⟩
  have HR := Lib.hid (And.intro hX (And.intro hrow (And.intro hL4 ho4)))
  clear hX hrow hL4 ho4 H4
  go_wp2_with fail
  refine bodyPost_ret (v := .tuple #[.int .i64 h.first, .int .i64 h.next, .int .i64 h.free, v, .bool true]) (by simp [results, Tryz.f19, go_sem]) rfl ?_
  obtain ⟨r1, r2, r3, r4⟩ := HR.out
  exact ⟨v, X, rfl, r1, r2.mono HO3.out.size, r3, HO3.out.trans r4⟩
end
end

end Go.Proofs.YtjpkdhnponcciaaGreatDoor

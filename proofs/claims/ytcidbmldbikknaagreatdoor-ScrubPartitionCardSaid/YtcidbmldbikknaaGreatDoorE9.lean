/-
  Tables in memory; walk: the owner of a track, by the program. Conditions: a table in memory; numbers of 64 bits.
-/
import Derived.Test.YtcidbmldbikknaaGreatDoorE8
namespace Go.Proofs.YtcidbmldbikknaaGreatDoor
open Go.RowKit Go.Sort

/-- A label. -/
structure Lab where
  id : Int
  unit : Int
  name : By
  note : By
  ext : List Rn
structure LabAt (w : World) (B b o : Nat) (x : Lab) : Prop where
  c0 : w.cell? ⟨b, o, none⟩ = some (.int .i64 x.id)
  c1 : w.cell? ⟨b, o + 1, none⟩ = some (.int .i64 x.unit)
  c2 : w.cell? ⟨b, o + 2, none⟩ = some (sv x.name)
  c3 : w.cell? ⟨b, o + 3, none⟩ = some (sv x.note)
  c4 : ∃ ea ec, w.cell? ⟨b, o + 4, none⟩ = some (.slice ea x.ext.length ec) ∧ Runs w B ea x.ext
structure okLab (x : Lab) : Prop where
  id : okI x.id
  unit : okI x.unit
  name : x.name.length ≤ 9223372036854775807
  note : x.note.length ≤ 9223372036854775807
/-- Labels in cells below a block. -/
structure Labs (w : World) (B : Nat) (a : Option Addr) (l : List Lab) : Prop where
  cells : l ≠ [] → ∃ b off, a = some ⟨b, off, none⟩ ∧ b < B ∧ ∀ i (h : i < l.length), LabAt w B b (off + i * 5) l[i]
  ok : ∀ x ∈ l, okLab x
theorem LabAt.below {w w' : World} {B b o : Nat} {x : Lab} (h : LabAt w B b o x) (hb : Below B w w') (hl : b < B) : LabAt w' B b o x :=
  ⟨(hb.cell (p := ⟨b, o, none⟩) hl).trans h.c0, (hb.cell (p := ⟨b, o + 1, none⟩) hl).trans h.c1, (hb.cell (p := ⟨b, o + 2, none⟩) hl).trans h.c2, (hb.cell (p := ⟨b, o + 3, none⟩) hl).trans h.c3, by
    obtain ⟨ea, ec, h1, h2⟩ := h.c4
    exact ⟨ea, ec, (hb.cell (p := ⟨b, o + 4, none⟩) hl).trans h1, h2.below hb⟩⟩
theorem Labs.below {w w' : World} {B : Nat} {a : Option Addr} {l : List Lab} (h : Labs w B a l) (hb : Below B w w') : Labs w' B a l :=
  ⟨fun hl => by obtain ⟨b, off, h1, h2, h3⟩ := h.cells hl; exact ⟨b, off, h1, h2, fun i hi => (h3 i hi).below hb h2⟩, h.ok⟩
theorem Labs.mono {w : World} {B B' : Nat} {a : Option Addr} {l : List Lab} (h : Labs w B a l) (hB : B ≤ B') : Labs w B' a l :=
  ⟨fun hl => by
    obtain ⟨b, off, h1, h2, h3⟩ := h.cells hl
    exact ⟨b, off, h1, Nat.lt_of_lt_of_le h2 hB, fun i hi => ⟨(h3 i hi).c0, (h3 i hi).c1, (h3 i hi).c2, (h3 i hi).c3, by obtain ⟨ea, ec, q1, q2⟩ := (h3 i hi).c4; exact ⟨ea, ec, q1, q2.mono hB⟩⟩⟩, h.ok⟩
theorem Labs.get {w : World} {B : Nat} {a : Option Addr} {l : List Lab} (h : Labs w B a l) {i : Nat} (hi : i < l.length) : ∃ b off, a = some ⟨b, off, none⟩ ∧ b < B ∧ LabAt w B b (off + i * 5) l[i] := by
  obtain ⟨b, off, h1, h2, h3⟩ := h.cells (fun e => by rw [e] at hi; simp at hi)
  exact ⟨b, off, h1, h2, h3 i hi⟩

theorem info_lab : (Tryz.prog.info? 43).map (·.size) = some 5 := by kernel_rfl
theorem info_tab : (Tryz.prog.info? 24).map (·.size) = some 3 := by kernel_rfl
/-- A label, loaded and stored whole. -/
def loadLab (p : Addr) : Sem Value := loadVar 43 p
theorem loadLab_down (p : Addr) : loadVar 43 p = loadLab p := rfl
theorem loadLab_at {w : World} {g : Nat} {cs : Array Value} {t : TypeId} {fr : Nat × Nat} (hg : w.heap[g]? = some (.cells cs t fr)) (hi : cs.size = 5) : (loadLab ⟨g, 0, none⟩).run Tryz.prog w = .ok (.agg cs) w :=
  run_loadVar_row (P := Tryz.prog) w g t 43 cs fr _ hg Tryz.underlying43 rfl (by rw [info_lab, hi])
def storeLab (p : Addr) (v : Value) : Sem Unit := storeVar 43 p v
theorem storeLab_down (p : Addr) (v : Value) : storeVar 43 p v = storeLab p v := rfl
theorem storeLab_at {w : World} {g : Nat} {cs : Array Value} {t : TypeId} {old : Array Value} (hg : w.heap[g]? = some (.cells old t (0, 0))) (hi : cs.size = 5) (ho : old.size = cs.size) (h1 : cs.all (·.oneCell') = true) : (storeLab ⟨g, 0, none⟩ (.agg cs)).run Tryz.prog w = .ok () (w.setRow g cs) :=
  run_storeVar_row (P := Tryz.prog) w g t 43 old cs hg (by rw [info_lab, hi]) ho h1
theorem loadLab_mid {w : World} {b o : Nat} {v0 v1 v2 v3 v4 : Value} (h0 : w.cell? ⟨b, o, none⟩ = some v0) (h1 : w.cell? ⟨b, o + 1, none⟩ = some v1) (h2 : w.cell? ⟨b, o + 2, none⟩ = some v2) (h3 : w.cell? ⟨b, o + 3, none⟩ = some v3) (h4 : w.cell? ⟨b, o + 4, none⟩ = some v4) :
    (loadLab ⟨b, o, none⟩).run Tryz.prog w = .ok (.agg #[v0, v1, v2, v3, v4]) w :=
  run_loadVar_mid (P := Tryz.prog) w b o 43 [v0, v1, v2, v3, v4] _ (fun j v hj => by
    match j with
    | 0 => simp at hj; subst hj; exact h0
    | 1 => simp at hj; subst hj; exact h1
    | 2 => simp at hj; subst hj; exact h2
    | 3 => simp at hj; subst hj; exact h3
    | 4 => simp at hj; subst hj; exact h4
    | j + 5 => simp at hj) Tryz.underlying43 rfl (by rw [info_lab]; rfl)
/-- A table, loaded whole. -/
def loadTab (p : Addr) : Sem Value := loadVar 24 p
theorem loadTab_down (p : Addr) : loadVar 24 p = loadTab p := rfl
theorem loadTab_at {w : World} {g : Nat} {cs : Array Value} {t : TypeId} {fr : Nat × Nat} (hg : w.heap[g]? = some (.cells cs t fr)) (hi : cs.size = 3) : (loadTab ⟨g, 0, none⟩).run Tryz.prog w = .ok (.agg cs) w :=
  run_loadVar_row (P := Tryz.prog) w g t 24 cs fr _ hg Tryz.underlying24 rfl (by rw [info_tab, hi])
abbrev tabC (name : By) (tracks : Int) (a : Option Addr) (n c : Nat) : Array Value := #[.string ⟨name.toArray⟩, .int .i64 tracks, .slice a n c]
attribute [local go_sem ↓] loadRn_down storeRn_down loadLab_down storeLab_down loadTab_down

/-- The slot of the owner of a track, and its place there. -/
def ownP : List Lab → Nat → Int → Option (Nat × Nat)
  | [], _, _ => none
  | x :: l, i, t => match idxP x.ext 0 t with
    | some k => some (i, k)
    | none => ownP l (i + 1) t
def ownR : Option (Nat × Nat) → Value
  | some x => .tuple #[.int .i64 x.1, .int .i64 x.2, .bool true]
  | none => .tuple #[.int .i64 0, .int .i64 0, .bool false]
theorem ret3 {fn : Func} {R : Ending → World → Prop} {a : Act} {w : World} {p0 p1 p2 : Tmp} {v0 v1 v2 : Value} (hr : fn.results = #[.tmp p0, .tmp p1, .tmp p2]) (h0 : a.tmps.getD p0 undef = v0) (h1 : a.tmps.getD p1 undef = v1) (h2 : a.tmps.getD p2 undef = v2)
    (hd : a.defers = []) (hR : R (.returned (.tuple #[v0, v1, v2])) w) : bodyPost Tryz.prog fn R .ret a w := by
  subst h0 h1 h2
  exact bodyPost_ret (by simp [results, hr, go_sem]) hd hR

set_option maxRecDepth 100000 in
set_option maxHeartbeats 4000000 in
theorem owner_any (w : World) (B : Nat) (a : Option Addr) (cap : Nat) (nm : By) (tr : Int) (l : List Lab) (t : Int) (h : Labs w B a l) (hB : B ≤ w.heap.size) (hl : l.length ≤ 1000000) (he : ∀ x ∈ l, x.ext.length ≤ 1000000) (ht : okI t) :
    Calls Tryz.prog 32 #[.agg (tabC nm tr a l.length cap), .int .i64 t] w fun e w' => e = .returned (ownR (ownP l 0 t)) ∧ Below w.heap.size w w' := by
  have hT0 : ownP l 0 t = ownP (l.drop 0) 0 t := rfl
  generalize ownP l 0 t = T at hT0 ⊢
  have HT0 := Lib.hid hT0
  have HL := Lib.hid h
  have HE := Lib.hid he
  have HT := Lib.hid ht
  have HB0 := Lib.hid (box_below w (tabC nm tr a l.length cap) 24)
  have hz0 := heap_alloc_new w (.cells (tabC nm tr a l.length cap) 24)
  have t2 := cell_at (i := 2) (v := .slice a l.length cap) hz0 rfl
  clear hT0 h he ht hz0
  go_enter Tryz.func32, Tryz.ntmps32
  go_wp2_with fail
  clear t2
  go_loopw [14] (fun k wr => ∃ j : Nat, j ≤ l.length ∧ k = .int .i64 j ∧ T = ownP (l.drop j) j t ∧ Below w.heap.size w wr) (fun k _ => l.length - (intOf k).toNat)
  case atStart => exact ⟨0, by omega, rfl, HT0.out, HB0.out⟩
  case round =>
    clear HT0
    obtain ⟨j, hj, rfl, hT, hb⟩ := hrel
    have HB := Lib.hid hb
    by_cases hlt : j < l.length
    · obtain ⟨b, off, rfl, hbb, hL⟩ := HL.out.get hlt
      have hLw := hL.below (hb.mono hB) hbb
      have hel := HE.out l[j] (List.getElem_mem hlt)
      rw [List.drop_eq_getElem_cons hlt, ownP] at hT
      clear hL hb
      generalize l[j] = x at hT hLw hel
      obtain ⟨ea, ec, h4, hR⟩ := hLw.c4
      have hbw : b < wr.heap.size := block_lt_of_cell hLw.c0
      have dl0 := loadLab_mid hLw.c0 hLw.c1 hLw.c2 hLw.c3 h4
      have hba := box_below wr #[.int .i64 0, .int .i64 0, .string ⟨#[]⟩, .string ⟨#[]⟩, .slice none 0 0] 43
      obtain ⟨W1, hW1⟩ : ∃ W1, W1 = (wr.alloc (.cells #[.int .i64 0, .int .i64 0, .string ⟨#[]⟩, .string ⟨#[]⟩, .slice none 0 0] 43)).setRow wr.heap.size #[.int .i64 x.id, .int .i64 x.unit, sv x.name, sv x.note, .slice ea x.ext.length ec] := ⟨_, rfl⟩
      have st1 := storeLab_at (cs := #[.int .i64 x.id, .int .i64 x.unit, sv x.name, sv x.note, .slice ea x.ext.length ec]) (heap_alloc_new wr (.cells #[.int .i64 0, .int .i64 0, .string ⟨#[]⟩, .string ⟨#[]⟩, .slice none 0 0] 43)) rfl rfl (by simp [Value.oneCell', sv])
      have hg1 : W1.heap[wr.heap.size]? = some (.cells #[.int .i64 x.id, .int .i64 x.unit, sv x.name, sv x.note, .slice ea x.ext.length ec] 43 (0, 0)) := by rw [hW1]; exact setRow_heap _ _ _ _ _ _ (heap_alloc_new _ _)
      have hb1 : Below wr.heap.size wr W1 := by rw [hW1]; exact Below.setRow hba (Nat.le_refl _) _
      rw [← hW1] at st1
      have c4 := cell_at (i := 4) (v := .slice ea x.ext.length ec) hg1 rfl
      have HB1 := Lib.hid (HB.out.trans (hb1.mono HB.out.size))
      have hBw := Nat.le_trans hB HB.out.size
      have HX := Lib.hid (index_any W1 B ea ec x.ext t (hR.below (hb1.mono hBw)) (Nat.le_trans hBw hb1.size) hel HT.out)
      clear hLw h4 hR hba hW1 hg1 hb1
      generalize sv x.name = nv at *
      generalize sv x.note = nv2 at *
      generalize x.ext = ext at *
      generalize x.id = xi at *
      generalize x.unit = xu at *
      generalize hI : idxP ext 0 t = I at hT HX
      clear hI
      cases I with
      | some k =>
        have HTT := Lib.hid (show T = some (j, k) from hT)
        clear hT
        go_wp2_with fail
        refine HX.out.mono ?_
        rintro e w2 ⟨rfl, hb2⟩
        have HB2 := Lib.hid (HB1.out.trans (hb2.mono HB1.out.size))
        clear hb2
        simp only [idxR]
        go_wp2_with fail
        refine ret3 rfl rfl rfl rfl rfl ?_
        rw [HTT.out]
        exact ⟨rfl, HB2.out⟩
      | none =>
        have HTT := Lib.hid (show T = ownP (l.drop (j + 1)) (j + 1) t from hT)
        clear hT
        go_wp2_with fail
        refine HX.out.mono ?_
        rintro e w2 ⟨rfl, hb2⟩
        have HB2 := Lib.hid (HB1.out.trans (hb2.mono HB1.out.size))
        clear hb2
        simp only [idxR]
        go_wp2_with fail
        go_roundw
        case rel => exact ⟨j + 1, by omega, by go_num, HTT.out, HB2.out⟩
        case measure => simp [intOf]; omega
    · have HTT := Lib.hid (show T = none by rw [hT, List.drop_eq_nil_of_le (by omega)]; rfl)
      clear hT hb
      go_wp2_with fail
      refine ret3 rfl rfl rfl rfl rfl ?_
      rw [HTT.out]
      exact ⟨rfl, HB.out⟩

end Go.Proofs.YtcidbmldbikknaaGreatDoor

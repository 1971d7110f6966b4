/-
  Walk: what a change that puts a record does to pairs, by the program. Conditions: the description is valid; a row of the call's own; the laid table of segments' codes. Walk: what a change that puts a record does to pairs, by the program. Conditions: the description is valid; a row of the call's own; the laid table of segments' codes. Walks: what a change that erases, and one that empties, does to pairs, by the program. Conditions: a row of the call's own. Walk: what a change that appends a record does to pairs, by the program. Conditions: the description is valid; a row of the call's own; the laid table of segments' codes.
  Walk: what the kinds of changes do, as a map of functions, by the program. Conditions: a row of the call's own; the laid table of segments' codes. Walk: a content after a change, by the program's inner function. Conditions: the description is valid; pairs in memory, not too many; the laid table of segments' codes. Walk: a content after a change, by the program's inner function. Conditions: the description is valid; pairs in memory, not too many; the laid table of segments' codes. Walk: a content after a change, by the program. Conditions: pairs in memory, not too many; the laid table of segments' codes.
  Contents in memory; what a reader of contents answers. No walk. Walks: the reference's reader of contents. Conditions: the contents in memory. Walk: the pair behind a key, by the reference. Conditions: the contents in memory.
-/
import Derived.Test.YtcefkngblddpoaaGreatDoorG16
import Derived.Test.YtcefkngblddpoaaGreatDoorG18
import Derived.Test.YtcefkngblddpoaaGreatDoorG15
import Derived.Test.YtcefkngblddpoaaGreatDoorG10
import Derived.Deep.RegionHeld3
namespace Go.Proofs.YtcefkngblddpoaaGreatDoor

section
section
open Go.RowKit Go.Sort
variable {z : Rest}
def loadPr (p : Addr) : Sem Value := loadVar 50 p
theorem loadPr_down (p : Addr) : loadVar 50 p = loadPr p := rfl
def storePr (p : Addr) (v : Value) : Sem Unit := storeVar 50 p v
theorem storePr_down (p : Addr) (v : Value) : storeVar 50 p v = storePr p v := rfl
/-- The description, the change and the pair in their blocks. -/
structure EffSt (w W : World) (z : Rest) (org fmt len blk kind id : Int) (key rec vol : By) (x : Pr) : Prop where
 ds : W.heap[w.heap.size]? = some (.cells (dsv z org fmt len blk) 45 (0, 0))
 ch : W.heap[w.heap.size + 1]? = some (.cells (chC kind id key rec vol) 36 (0, 0))
 pr : W.heap[w.heap.size + 2]? = some (.cells #[.string ⟨x.1.toArray⟩, .string ⟨x.2.toArray⟩] 50 (0, 0))
 bel : Below w.heap.size w W
 size : W.heap.size = w.heap.size + 3
theorem EffSt.below {w W W' : World} {org fmt len blk kind id : Int} {key rec vol : By} {x : Pr} (h : EffSt w W z org fmt len blk kind id key rec vol x) (hb : Below W.heap.size W W') :
 Below w.heap.size w W' ∧ W'.heap[w.heap.size]? = some (.cells (dsv z org fmt len blk) 45 (0, 0)) ∧ W'.heap[w.heap.size + 1]? = some (.cells (chC kind id key rec vol) 36 (0, 0)) ∧ W'.heap[w.heap.size + 2]? = some (.cells #[.string ⟨x.1.toArray⟩, .string ⟨x.2.toArray⟩] 50 (0, 0)) :=
 ⟨h.bel.trans (hb.mono h.bel.size), heap_below hb (lt_of_block h.ds) h.ds, heap_below hb (lt_of_block h.ch) h.ch, heap_below hb (lt_of_block h.pr) h.pr⟩
end
section
open Go.RowKit Go.Sort
variable {z : Rest}
theorem hasL_lt {k : By} {l : List Pr} (h : hasL k l = true) : posL k l < l.length := by
 unfold hasL at h
 split at h
 · rename_i q hq; exact (List.getElem?_eq_some_iff.1 hq).1
 · cases h
section
attribute [local go_sem ↓] loadDs_down loadPr_down storePr_down
end
end
section
open Go.RowKit Go.Sort
variable {z : Rest}
/-- The description and the change in their blocks. -/
structure TwoSt (w W : World) (z : Rest) (org fmt len blk kind id : Int) (key rec vol : By) : Prop where
 ds : W.heap[w.heap.size]? = some (.cells (dsv z org fmt len blk) 45 (0, 0))
 ch : W.heap[w.heap.size + 1]? = some (.cells (chC kind id key rec vol) 36 (0, 0))
 bel : Below w.heap.size w W
 size : W.heap.size = w.heap.size + 2
theorem TwoSt.below {w W W' : World} {org fmt len blk kind id : Int} {key rec vol : By} (h : TwoSt w W z org fmt len blk kind id key rec vol) (hb : Below W.heap.size W W') :
 Below w.heap.size w W' ∧ W'.heap[w.heap.size]? = some (.cells (dsv z org fmt len blk) 45 (0, 0)) ∧ W'.heap[w.heap.size + 1]? = some (.cells (chC kind id key rec vol) 36 (0, 0)) :=
 ⟨h.bel.trans (hb.mono h.bel.size), heap_below hb (lt_of_block h.ds) h.ds, heap_below hb (lt_of_block h.ch) h.ch⟩
section
attribute [local go_sem ↓] loadDs_down loadPr_down storePr_down
end
end
section
open Go.RowKit Go.Sort
variable {z : Rest}
section
attribute [local go_sem ↓] loadDs_down loadPr_down storePr_down
end
end
end

section
section
open Go.RowKit Go.Sort
variable {z : Rest}
end
section
open Go.RowKit Go.Sort
variable {z : Rest}
theorem info_con49 : (Tryz.prog.info? 48).map (·.size) = some 23 := by kernel_rfl
def loadCo (p : Addr) : Sem Value := loadVar 48 p
theorem loadCo_down (p : Addr) : loadVar 48 p = loadCo p := rfl
def storeCo (p : Addr) (v : Value) : Sem Unit := storeVar 48 p v
theorem storeCo_down (p : Addr) (v : Value) : storeVar 48 p v = storeCo p v := rfl
theorem one_con {org fmt len blk ap : Int} {a : Option Addr} {n c : Nat} : (conC z org fmt len blk ap a n c).all (·.oneCell') = true := by simp [Value.oneCell']
theorem storeCo_at {w : World} {g : Nat} {cs : Array Value} {t : TypeId} {old : Array Value} (hg : w.heap[g]? = some (.cells old t (0, 0))) (hi : cs.size = 23) (ho : old.size = 23) (h1 : cs.all (·.oneCell') = true) : (storeCo ⟨g, 0, none⟩ (.agg cs)).run Tryz.prog w = .ok () (w.setRow g cs) :=
 run_storeVar_row (P := Tryz.prog) w g t 48 old cs hg (by rw [info_con49, hi]) (by rw [ho, hi]) h1
theorem info_ch : (Tryz.prog.info? 36).map (·.size) = some 5 := by kernel_rfl
def loadCh (p : Addr) : Sem Value := loadVar 36 p
theorem loadCh_down (p : Addr) : loadVar 36 p = loadCh p := rfl
/-- The cells of a change with its number. -/
abbrev numC (n kind id : Int) (key rec vol : By) : Array Value := #[.int .i64 n, .int .i64 kind, .int .i64 id, .string ⟨key.toArray⟩, .string ⟨rec.toArray⟩, .string ⟨vol.toArray⟩]
abbrev conZ : Array Value := #[.int .i64 0, .int .i64 0, .int .i64 0, .int .i64 0, .int .i64 0, .int .i64 0, .int .i64 0, .int .i64 0, .int .i64 0, .int .i64 0, .int .i64 0, .int .i64 0, .int .i64 0, .int .i64 0,
 .bool false, .int .i64 0, .string ⟨#[]⟩, .string ⟨#[]⟩, .int .i64 0, .int .i64 0, .bool false, .int .i64 0, .slice none 0 0]
/-- A content, a change and a result in their blocks. -/
structure DoSt (w W : World) (z : Rest) (org fmt len blk ap : Int) (a : Option Addr) (m c : Nat) (n kind id : Int) (key rec vol : By) : Prop where
 con : W.heap[w.heap.size]? = some (.cells (conC z org fmt len blk ap a m c) 48 (0, 0))
 num : W.heap[w.heap.size + 1]? = some (.cells (numC n kind id key rec vol) 125 (0, 0))
 res : W.heap[w.heap.size + 2]? = some (.cells conZ 48 (0, 0))
 bel : Below w.heap.size w W
 size : w.heap.size + 3 ≤ W.heap.size
theorem DoSt.below {w W W' : World} {org fmt len blk ap : Int} {a : Option Addr} {m c : Nat} {n kind id : Int} {key rec vol : By} (h : DoSt w W z org fmt len blk ap a m c n kind id key rec vol) (hb : Below W.heap.size W W') : DoSt w W' z org fmt len blk ap a m c n kind id key rec vol :=
 ⟨heap_below hb (lt_of_block h.con) h.con, heap_below hb (lt_of_block h.num) h.num, heap_below hb (lt_of_block h.res) h.res, h.bel.trans (hb.mono h.bel.size), Nat.le_trans h.size hb.size⟩
end
section
open Go.RowKit Go.Sort
variable {z : Rest}
section
attribute [local go_sem ↓] loadDs_down loadCo_down storeCo_down loadCh_down
end
end
section
open Go.RowKit Go.Sort
variable {z : Rest}
def loadNum (p : Addr) : Sem Value := loadVar 125 p
theorem loadNum_down (p : Addr) : loadVar 125 p = loadNum p := rfl
section
attribute [local go_sem ↓] loadDs_down loadCo_down storeCo_down loadCh_down loadNum_down
end
end
end

section
set_option maxRecDepth 100000
set_option maxHeartbeats 4000000
section
open Go.RowKit Go.Sort
/-- A content, with where its pairs lie. -/
structure Co where
 z : Rest
 org : Int
 fmt : Int
 len : Int
 blk : Int
 ap : Int
 a : Option Addr
 cap : Nat
 l : List Pr
instance : Inhabited Co := ⟨⟨⟨0, 0, 0, 0, 0, 0, 0, 0, 0, 0, false, 0, [], [], 0, 0, false⟩, 0, 0, 0, 0, 0, none, 0, []⟩⟩
abbrev Co.cs (x : Co) : Array Value := conC x.z x.org x.fmt x.len x.blk x.ap x.a x.l.length x.cap
/-- A content's cells lie at a place. -/
def CoAt (w : World) (b o : Nat) (x : Co) : Prop := ∀ (j : Nat) (v : Value), x.cs.toList[j]? = some v → w.cell? ⟨b, o + j, none⟩ = some v
theorem CoAt.load {w : World} {b o : Nat} {x : Co} (h : CoAt w b o x) : (loadCo ⟨b, o, none⟩).run Tryz.prog w = .ok (.agg x.cs) w :=
 run_loadVar_mid (P := Tryz.prog) w b o 48 x.cs.toList _ (fun j v hj => h j v hj) Tryz.underlying48 rfl (by rw [info_con49]; rfl)
theorem CoAt.below {w w' : World} {b o B : Nat} {x : Co} (h : CoAt w b o x) (hb : Below B w w') (hB : b < B) : CoAt w' b o x :=
 fun j v hj => (hb.cell (p := ⟨b, o + j, none⟩) hB).trans (h j v hj)
/-- Contents in memory, below block B. -/
structure Cons (w : World) (B : Nat) (a : Option Addr) (l : List Co) : Prop where
 cells : l ≠ [] → ∃ b off, a = some ⟨b, off, none⟩ ∧ b < B ∧ ∀ i (h : i < l.length), CoAt w b (off + i * 23) l[i]
 prs : ∀ x ∈ l, Prs w B x.a x.l ∧ x.l.length ≤ x.cap ∧ x.cap ≤ maxLen
theorem Cons.below {w w' : World} {B a l} (h : Cons w B a l) (hb : Below B w w') : Cons w' B a l :=
 ⟨fun hl => by
   obtain ⟨b, off, h1, h2, h3⟩ := h.cells hl
   exact ⟨b, off, h1, h2, fun i hi => (h3 i hi).below hb h2⟩, fun x hx => ⟨(h.prs x hx).1.below hb, (h.prs x hx).2⟩⟩
theorem Cons.mono {w : World} {B B' a l} (h : Cons w B a l) (hB : B ≤ B') : Cons w B' a l :=
 ⟨fun hl => by obtain ⟨b, off, h1, h2, h3⟩ := h.cells hl; exact ⟨b, off, h1, by omega, h3⟩, fun x hx => ⟨(h.prs x hx).1.mono hB, (h.prs x hx).2⟩⟩
theorem Cons.get {w : World} {B a l} (h : Cons w B a l) {i : Nat} (hi : i < l.length) : ∃ b off, a = some ⟨b, off, none⟩ ∧ b < B ∧ CoAt w b (off + i * 23) l[i] := by
 obtain ⟨b, off, h1, h2, h3⟩ := h.cells (fun e => by rw [e] at hi; simp at hi)
 exact ⟨b, off, h1, h2, h3 i hi⟩
/-- The pairs of the first content with an Id. -/
def pairsP (id : Int) (cs : List Co) : List Pr := match cs.find? (fun x => decide (x.z.id = id)) with
 | some x => x.l
 | none => []
/-- A record, by a key. -/
def getL (k : By) (l : List Pr) : By × Int := match hasL k l, l[posL k l]? with
 | true, some p => (p.2, 0)
 | _, _ => ([], 6)
/-- The first pair behind a key. -/
def nextL (k : By) (l : List Pr) : By × By × Int := match l[if hasL k l = true then posL k l + 1 else posL k l]? with
 | some p => (p.1, p.2, 0)
 | none => ([], [], 6)
theorem getL_no {k : By} {l : List Pr} (h : hasL k l = false) : getL k l = ([], 6) := by unfold getL; rw [h]
theorem getL_yes {k : By} {l : List Pr} (h : hasL k l = true) (hp : posL k l < l.length) : getL k l = (l[posL k l].2, 0) := by
 unfold getL; rw [h, List.getElem?_eq_getElem hp]
end
section
open Go.RowKit Go.Sort
theorem pairs_at {id : Int} {cs : List Co} {j : Nat} (hj : j < cs.length) (h : ∀ x ∈ cs.take j, x.z.id ≠ id) (he : cs[j].z.id = id) : pairsP id cs = cs[j].l := by
 unfold pairsP
 have : cs.find? (fun x => decide (x.z.id = id)) = some cs[j] := by
  rw [List.find?_eq_some_iff_getElem]
  refine ⟨by simpa using he, j, hj, rfl, fun i hi => ?_⟩
  have := h cs[i] (List.mem_take_iff_getElem.2 ⟨i, by omega, rfl⟩)
  simpa using this
 rw [this]
theorem pairs_none {id : Int} {cs : List Co} (h : ∀ x ∈ cs, x.z.id ≠ id) : pairsP id cs = [] := by
 unfold pairsP
 have : cs.find? (fun x => decide (x.z.id = id)) = none := by
  rw [List.find?_eq_none]; intro x hx; simpa using h x hx
 rw [this]
theorem rget_any (w : World) (B : Nat) (a : Option Addr) (cap : Nat) (cs : List Co) (id : Int) (k : By) (h : Cons w B a cs) (hB : B ≤ w.heap.size) (hl : ∀ x ∈ cs, x.l.length ≤ 1000000) (hn : cs.length ≤ 1000000) :
 Calls Tryz.prog 35 #[.slice a cs.length cap, .int .i64 id, .string ⟨k.toArray⟩] w fun e w' => e = .returned (.tuple #[.string ⟨(getL k (pairsP id cs)).1.toArray⟩, .int .i64 (getL k (pairsP id cs)).2]) ∧ Below w.heap.size w w' := by
 have HS := Lib.hid h
 clear h
 go_enter Tryz.func35, Tryz.ntmps35
 go_wp2_with fail
 go_loopw [8] (fun i wr => ∃ j : Nat, j ≤ cs.length ∧ i = .int .i64 j ∧ (∀ x ∈ cs.take j, x.z.id ≠ id) ∧ Below w.heap.size w wr) (fun i _ => cs.length - (intOf i).toNat)
 case atStart => exact ⟨0, by omega, rfl, by simp, Below.refl _ _⟩
 case round =>
  obtain ⟨j, hj, rfl, hno, hb⟩ := hrel
  have HB := Lib.hid hb
  have HNO := Lib.hid hno
  clear hb hno
  by_cases hlt : j < cs.length
  · have jI : (j : Int) < (cs.length : Int) := by omega
    obtain ⟨b, off, rfl, hbb, hat⟩ := HS.out.get hlt
    have HAT := Lib.hid (hat.below (HB.out.mono hB) hbb)
    have hpr := HS.out.prs _ (List.getElem_mem hlt)
    have HN := Lib.hid (fun (hp : ¬ cs[j].z.id = id) => show ∀ x ∈ cs.take (j + 1), x.z.id ≠ id by
     intro x hx
     rw [List.take_succ_eq_append_getElem hlt] at hx
     rcases List.mem_append.1 hx with hx | hx
     · exact HNO.out x hx
     · obtain rfl := List.mem_singleton.1 hx; exact hp)
    have HY := Lib.hid (fun (hp : cs[j].z.id = id) => pairs_at hlt HNO.out hp)
    clear hat
    have hlj := hl _ (List.getElem_mem hlt)
    generalize cs[j] = x at HAT hpr HN HY hlj
    have e0 : wr.cell? ⟨b, off + j * 23, none⟩ = some (.int .i64 x.z.id) := HAT.out 0 _ rfl
    have HPR := Lib.hid hpr
    clear hpr
    by_cases hid : x.z.id = id
    · have HPA := Lib.hid (HY.out hid)
      have e22 : wr.cell? ⟨b, off + j * 23 + 22, none⟩ = some (.slice x.a x.l.length x.cap) := HAT.out 22 _ rfl
      have HFD := Lib.hid (rfind_any k wr B x.a x.cap x.l (HPR.out.1.below (HB.out.mono hB)) hlj HPR.out.2.1)
      clear HY HN
      obtain ⟨z, org, fmt, len, blk, ap, xa, xc, L⟩ := x
      simp only at hid e0 e22 HFD HPA HPR hlj
      rw [hid] at e0
      clear hid
      cases hh : hasL k L with
      | false =>
        rw [hh] at HFD
        have HQ := Lib.hid (show getL k (pairsP id cs) = ([], 6) by rw [HPA.out]; exact getL_no hh)
        clear hh
        go_wp2_with fail
        refine HFD.out.mono ?_
        rintro e w2 ⟨rfl, hb2⟩
        have HB2 := Lib.hid (HB.out.trans (hb2.mono HB.out.size))
        clear hb2 e0 e22
        go_wp2_with fail
        go_ret2
        exact ⟨by rw [HQ.out]; rfl, HB2.out⟩
      | true =>
        rw [hh] at HFD
        have hp := hasL_lt hh
        have HQ := Lib.hid (show getL k (pairsP id cs) = (L[posL k L].2, 0) by rw [HPA.out]; exact getL_yes hh hp)
        obtain ⟨b5, off5, rfl, hbb5, g1, g2⟩ := HPR.out.1.get hp
        have HG2 := Lib.hid g2
        have pI : (posL k L : Int) < (L.length : Int) := by omega
        clear hh g1 g2
        generalize L[posL k L] = pr at HQ HG2
        generalize posL k L = m at HFD HG2 hp pI
        go_wp2_with fail
        refine HFD.out.mono ?_
        rintro e w2 ⟨rfl, hb2⟩
        have HB2 := Lib.hid (HB.out.trans (hb2.mono HB.out.size))
        have f22 : w2.cell? ⟨b, off + j * 23 + 22, none⟩ = some (.slice (some ⟨b5, off5, none⟩) L.length xc) := (hb2.cell (p := ⟨b, off + j * 23 + 22, none⟩) (block_lt_of_cell e22)).trans e22
        have g2 := (HB2.out.mono hB).cell (p := ⟨b5, off5 + m * 2 + 1, none⟩) hbb5 |>.trans HG2.out
        clear hb2 e0 e22
        go_wp2_with fail
        go_ret2
        exact ⟨by rw [HQ.out]; rfl, HB2.out⟩
    · have HR := Lib.hid (HN.out hid)
      clear HN HY
      go_wp2_with fail
      go_roundw
      case rel => exact ⟨j + 1, by omega, by go_num, HR.out, HB.out⟩
      case measure => simp [intOf]; omega
  · have jI : ¬ (j : Int) < (cs.length : Int) := by omega
    have HR := Lib.hid (show pairsP id cs = [] by
     have := HNO.out
     rw [List.take_of_length_le (by omega)] at this
     exact pairs_none this)
    go_wp2_with fail
    go_ret2
    exact ⟨by rw [HR.out]; rfl, HB.out⟩
end
section
open Go.RowKit Go.Sort
theorem rnext_any (w : World) (B : Nat) (a : Option Addr) (cap : Nat) (cs : List Co) (id : Int) (k : By) (h : Cons w B a cs) (hB : B ≤ w.heap.size) (hl : ∀ x ∈ cs, x.l.length ≤ 1000000) (hn : cs.length ≤ 1000000) :
 Calls Tryz.prog 36 #[.slice a cs.length cap, .int .i64 id, .string ⟨k.toArray⟩] w fun e w' => e = .returned (.tuple #[.string ⟨(nextL k (pairsP id cs)).1.toArray⟩, .string ⟨(nextL k (pairsP id cs)).2.1.toArray⟩, .int .i64 (nextL k (pairsP id cs)).2.2]) ∧ Below w.heap.size w w' := by
 have HS := Lib.hid h
 clear h
 go_enter Tryz.func36, Tryz.ntmps36
 go_wp2_with fail
 go_loopw [9] (fun i wr => ∃ j : Nat, j ≤ cs.length ∧ i = .int .i64 j ∧ (∀ x ∈ cs.take j, x.z.id ≠ id) ∧ Below w.heap.size w wr) (fun i _ => cs.length - (intOf i).toNat)
 case atStart => exact ⟨0, by omega, rfl, by simp, Below.refl _ _⟩
 case round =>
  obtain ⟨j, hj, rfl, hno, hb⟩ := hrel
  have HB := Lib.hid hb
  have HNO := Lib.hid hno
  clear hb hno
  by_cases hlt : j < cs.length
  · have jI : (j : Int) < (cs.length : Int) := by omega
    obtain ⟨b, off, rfl, hbb, hat⟩ := HS.out.get hlt
    have HAT := Lib.hid (hat.below (HB.out.mono hB) hbb)
    have hpr := HS.out.prs _ (List.getElem_mem hlt)
    have HN := Lib.hid (fun (hp : ¬ cs[j].z.id = id) => show ∀ x ∈ cs.take (j + 1), x.z.id ≠ id by
     intro x hx
     rw [List.take_succ_eq_append_getElem hlt] at hx
     rcases List.mem_append.1 hx with hx | hx
     · exact HNO.out x hx
     · obtain rfl := List.mem_singleton.1 hx; exact hp)
    have HY := Lib.hid (fun (hp : cs[j].z.id = id) => pairs_at hlt HNO.out hp)
    clear hat
    have hlj := hl _ (List.getElem_mem hlt)
    generalize cs[j] = x at HAT hpr HN HY hlj
    have e0 : wr.cell? ⟨b, off + j * 23, none⟩ = some (.int .i64 x.z.id) := HAT.out 0 _ rfl
    have HPR := Lib.hid hpr
    clear hpr
    by_cases hid : x.z.id = id
    · have HPA := Lib.hid (HY.out hid)
      have e22 : wr.cell? ⟨b, off + j * 23 + 22, none⟩ = some (.slice x.a x.l.length x.cap) := HAT.out 22 _ rfl
      have HFD := Lib.hid (rfind_any k wr B x.a x.cap x.l (HPR.out.1.below (HB.out.mono hB)) hlj HPR.out.2.1)
      clear HY HN
      obtain ⟨z, org, fmt, len, blk, ap, xa, xc, L⟩ := x
      simp only at hid e0 e22 HFD HPA HPR hlj
      rw [hid] at e0
      clear hid
      have HPP := Lib.hid (show pairsP id cs = L from HPA.out)
      obtain ⟨i1, hi1⟩ : ∃ i1, i1 = if hasL k L = true then posL k L + 1 else posL k L := ⟨_, rfl⟩
      have hle := posL_le k L
      have HLT := Lib.hid (fun (h : hasL k L = true) => hasL_lt h)
      by_cases hin : i1 < L.length
      · have HQ := Lib.hid (show nextL k (pairsP id cs) = (L[i1].1, L[i1].2, 0) by rw [HPP.out]; unfold nextL; rw [← hi1, List.getElem?_eq_getElem hin])
        obtain ⟨b5, off5, rfl, hbb5, g1, g2⟩ := HPR.out.1.get hin
        have HG1 := Lib.hid g1
        have HG2 := Lib.hid g2
        have pI : ¬ (L.length : Int) ≤ (i1 : Int) := by omega
        have pI2 : (i1 : Int) < (L.length : Int) := by omega
        clear g1 g2
        generalize L[i1] = pr at HQ HG1 HG2
        cases hh : hasL k L with
        | true =>
          rw [hh] at HFD
          rw [hh, if_pos rfl] at hi1
          generalize posL k L = m at HFD hi1 hle
          subst hi1
          clear HLT
          have hw1 : IntKind.i64.wrap ((m : Int) + 1) = ((m + 1 : Nat) : Int) := by rw [IntKind.wrap_i64]; omega
          have pI' : ¬ (L.length : Int) ≤ (m : Int) + 1 := by omega
          have pI2' : (m : Int) + 1 < (L.length : Int) := by omega
          go_wp2_with fail
          refine HFD.out.mono ?_
          rintro e w2 ⟨rfl, hb2⟩
          have HB2 := Lib.hid (HB.out.trans (hb2.mono HB.out.size))
          have f22 : w2.cell? ⟨b, off + j * 23 + 22, none⟩ = some (.slice (some ⟨b5, off5, none⟩) L.length xc) := (hb2.cell (p := ⟨b, off + j * 23 + 22, none⟩) (block_lt_of_cell e22)).trans e22
          have f22d : w2.drew.cell? ⟨b, off + j * 23 + 22, none⟩ = some (.slice (some ⟨b5, off5, none⟩) L.length xc) := f22
          have g1 : w2.drew.cell? ⟨b5, off5 + (m + 1) * 2, none⟩ = some (.string ⟨pr.1.toArray⟩) := (HB2.out.mono hB).cell (p := ⟨b5, off5 + (m + 1) * 2, none⟩) hbb5 |>.trans HG1.out
          have g2 : w2.drew.cell? ⟨b5, off5 + (m + 1) * 2 + 1, none⟩ = some (.string ⟨pr.2.toArray⟩) := (HB2.out.mono hB).cell (p := ⟨b5, off5 + (m + 1) * 2 + 1, none⟩) hbb5 |>.trans HG2.out
          clear hb2 e0 e22
          go_wp2_with fail
          go_region
          all_goals
           go_wp2_with fail
           go_ret3
           exact ⟨by rw [HQ.out]; rfl, below_drewN HB2.out 1⟩
        | false =>
          rw [hh] at HFD
          rw [hh, if_neg (by decide)] at hi1
          generalize posL k L = m at HFD hi1 hle
          subst hi1
          clear HLT
          go_wp2_with fail
          refine HFD.out.mono ?_
          rintro e w2 ⟨rfl, hb2⟩
          have HB2 := Lib.hid (HB.out.trans (hb2.mono HB.out.size))
          have f22 : w2.cell? ⟨b, off + j * 23 + 22, none⟩ = some (.slice (some ⟨b5, off5, none⟩) L.length xc) := (hb2.cell (p := ⟨b, off + j * 23 + 22, none⟩) (block_lt_of_cell e22)).trans e22
          have f22d : w2.drew.cell? ⟨b, off + j * 23 + 22, none⟩ = some (.slice (some ⟨b5, off5, none⟩) L.length xc) := f22
          have g1 : w2.drew.cell? ⟨b5, off5 + i1 * 2, none⟩ = some (.string ⟨pr.1.toArray⟩) := (HB2.out.mono hB).cell (p := ⟨b5, off5 + i1 * 2, none⟩) hbb5 |>.trans HG1.out
          have g2 : w2.drew.cell? ⟨b5, off5 + i1 * 2 + 1, none⟩ = some (.string ⟨pr.2.toArray⟩) := (HB2.out.mono hB).cell (p := ⟨b5, off5 + i1 * 2 + 1, none⟩) hbb5 |>.trans HG2.out
          clear hb2 e0 e22
          go_wp2_with fail
          go_region
          all_goals
           go_wp2_with fail
           go_ret3
           exact ⟨by rw [HQ.out]; rfl, below_drewN HB2.out 1⟩
      · have HQ := Lib.hid (show nextL k (pairsP id cs) = ([], [], 6) by rw [HPP.out]; unfold nextL; rw [← hi1, List.getElem?_eq_none (by omega)])
        have pI : (L.length : Int) ≤ (i1 : Int) := by omega
        cases hh : hasL k L with
        | true =>
          rw [hh] at HFD
          rw [hh, if_pos rfl] at hi1
          generalize posL k L = m at HFD hi1 hle
          subst hi1
          clear HLT
          have hw1 : IntKind.i64.wrap ((m : Int) + 1) = ((m + 1 : Nat) : Int) := by rw [IntKind.wrap_i64]; omega
          have pI' : (L.length : Int) ≤ (m : Int) + 1 := by omega
          go_wp2_with fail
          refine HFD.out.mono ?_
          rintro e w2 ⟨rfl, hb2⟩
          have HB2 := Lib.hid (HB.out.trans (hb2.mono HB.out.size))
          have f22 : w2.cell? ⟨b, off + j * 23 + 22, none⟩ = some (.slice xa L.length xc) := (hb2.cell (p := ⟨b, off + j * 23 + 22, none⟩) (block_lt_of_cell e22)).trans e22
          clear hb2 e0 e22
          go_wp2_with fail
          go_ret3
          exact ⟨by rw [HQ.out]; rfl, HB2.out⟩
        | false =>
          rw [hh] at HFD
          rw [hh, if_neg (by decide)] at hi1
          generalize posL k L = m at HFD hi1 hle
          subst hi1
          clear HLT
          go_wp2_with fail
          refine HFD.out.mono ?_
          rintro e w2 ⟨rfl, hb2⟩
          have HB2 := Lib.hid (HB.out.trans (hb2.mono HB.out.size))
          have f22 : w2.cell? ⟨b, off + j * 23 + 22, none⟩ = some (.slice xa L.length xc) := (hb2.cell (p := ⟨b, off + j * 23 + 22, none⟩) (block_lt_of_cell e22)).trans e22
          clear hb2 e0 e22
          go_wp2_with fail
          go_ret3
          exact ⟨by rw [HQ.out]; rfl, HB2.out⟩
    · have HR := Lib.hid (HN.out hid)
      clear HN HY
      go_wp2_with fail
      go_roundw
      case rel => exact ⟨j + 1, by omega, by go_num, HR.out, HB.out⟩
      case measure => simp [intOf]; omega
  · have jI : ¬ (j : Int) < (cs.length : Int) := by omega
    have HR := Lib.hid (show pairsP id cs = [] by
     have := HNO.out
     rw [List.take_of_length_le (by omega)] at this
     exact pairs_none this)
    go_wp2_with fail
    go_ret3
    exact ⟨by rw [HR.out]; rfl, HB.out⟩
end
end

end Go.Proofs.YtcefkngblddpoaaGreatDoor

/-
  Plain: the lines of a report; findings in memory. No condition.
-/
import Derived.Test.YtcidbmldbikknaaGreatDoorE25
import Derived.Test.YtcidbmldbikknaaGreatDoorE17
import Derived.Test.YtcidbmldbikknaaGreatDoorE23
namespace Go.Proofs.YtcidbmldbikknaaGreatDoor
open Go.RowKit Go.Sort

/-- A bad sector. -/
structure Bd where
  id : Int
  unit : Int
  sector : Int
  code : Int
structure okBd (x : Bd) : Prop where
  id : okI x.id
  unit : okI x.unit
  sector : okI x.sector
  code : okI x.code
/-- Bad sectors in cells below a block. -/
structure Bads (w : World) (B : Nat) (a : Option Addr) (l : List Bd) : Prop where
  cells : l ≠ [] → ∃ b off, a = some ⟨b, off, none⟩ ∧ b < B ∧ ∀ i (h : i < l.length), w.cell? ⟨b, off + i * 4, none⟩ = some (.int .i64 l[i].id) ∧ w.cell? ⟨b, off + i * 4 + 1, none⟩ = some (.int .i64 l[i].unit) ∧ w.cell? ⟨b, off + i * 4 + 2, none⟩ = some (.int .i64 l[i].sector) ∧ w.cell? ⟨b, off + i * 4 + 3, none⟩ = some (.int .i64 l[i].code)
  ok : ∀ x ∈ l, okBd x
theorem Bads.below {w w' : World} {B : Nat} {a : Option Addr} {l : List Bd} (h : Bads w B a l) (hb : Below B w w') : Bads w' B a l :=
  ⟨fun hl => by
    obtain ⟨b, off, h1, h2, h3⟩ := h.cells hl
    exact ⟨b, off, h1, h2, fun i hi => ⟨(hb.cell (p := ⟨b, off + i * 4, none⟩) h2).trans (h3 i hi).1, (hb.cell (p := ⟨b, off + i * 4 + 1, none⟩) h2).trans (h3 i hi).2.1, (hb.cell (p := ⟨b, off + i * 4 + 2, none⟩) h2).trans (h3 i hi).2.2.1, (hb.cell (p := ⟨b, off + i * 4 + 3, none⟩) h2).trans (h3 i hi).2.2.2⟩⟩, h.ok⟩
theorem bads_nil (w : World) (B : Nat) (a : Option Addr) : Bads w B a [] := ⟨fun h => absurd rfl h, fun r hr => by cases hr⟩
theorem Bads.get {w : World} {B : Nat} {a : Option Addr} {l : List Bd} (h : Bads w B a l) {i : Nat} (hi : i < l.length) : ∃ b off, a = some ⟨b, off, none⟩ ∧ b < B ∧ w.cell? ⟨b, off + i * 4, none⟩ = some (.int .i64 l[i].id) ∧ w.cell? ⟨b, off + i * 4 + 1, none⟩ = some (.int .i64 l[i].unit) ∧ w.cell? ⟨b, off + i * 4 + 2, none⟩ = some (.int .i64 l[i].sector) ∧ w.cell? ⟨b, off + i * 4 + 3, none⟩ = some (.int .i64 l[i].code) := by
  obtain ⟨b, off, h1, h2, h3⟩ := h.cells (fun e => by rw [e] at hi; simp at hi)
  exact ⟨b, off, h1, h2, (h3 i hi).1, (h3 i hi).2.1, (h3 i hi).2.2.1, (h3 i hi).2.2.2⟩
theorem info_bd : (Tryz.prog.info? 61).map (·.size) = some 4 := by kernel_rfl
/-- A bad sector, loaded and stored whole. -/
def loadBd (p : Addr) : Sem Value := loadVar 61 p
theorem loadBd_down (p : Addr) : loadVar 61 p = loadBd p := rfl
theorem loadBd_at {w : World} {g : Nat} {cs : Array Value} {t : TypeId} {fr : Nat × Nat} (hg : w.heap[g]? = some (.cells cs t fr)) (hi : cs.size = 4) : (loadBd ⟨g, 0, none⟩).run Tryz.prog w = .ok (.agg cs) w :=
  run_loadVar_row (P := Tryz.prog) w g t 61 cs fr _ hg Tryz.underlying61 rfl (by rw [info_bd, hi])
theorem loadBd_mid {w : World} {b o : Nat} {v0 v1 v2 v3 : Value} (h0 : w.cell? ⟨b, o, none⟩ = some v0) (h1 : w.cell? ⟨b, o + 1, none⟩ = some v1) (h2 : w.cell? ⟨b, o + 2, none⟩ = some v2) (h3 : w.cell? ⟨b, o + 3, none⟩ = some v3) :
    (loadBd ⟨b, o, none⟩).run Tryz.prog w = .ok (.agg #[v0, v1, v2, v3]) w :=
  run_loadVar_mid (P := Tryz.prog) w b o 61 [v0, v1, v2, v3] _ (fun j v hj => by
    match j with
    | 0 => simp at hj; subst hj; exact h0
    | 1 => simp at hj; subst hj; exact h1
    | 2 => simp at hj; subst hj; exact h2
    | 3 => simp at hj; subst hj; exact h3
    | j + 4 => simp at hj) Tryz.underlying61 rfl (by rw [info_bd]; rfl)
def storeBd (p : Addr) (v : Value) : Sem Unit := storeVar 61 p v
theorem storeBd_down (p : Addr) (v : Value) : storeVar 61 p v = storeBd p v := rfl
theorem storeBd_at {w : World} {g : Nat} {cs : Array Value} {t : TypeId} {old : Array Value} (hg : w.heap[g]? = some (.cells old t (0, 0))) (hi : cs.size = 4) (ho : old.size = cs.size) (h1 : cs.all (·.oneCell') = true) : (storeBd ⟨g, 0, none⟩ (.agg cs)).run Tryz.prog w = .ok () (w.setRow g cs) :=
  run_storeVar_row (P := Tryz.prog) w g t 61 old cs hg (by rw [info_bd, hi]) ho h1

def tOf : By := [32, 111, 102, 32]
def tUnit : By := [32, 111, 102, 32, 117, 110, 105, 116, 32]
def tentL (r : Rn) : By := [116, 101, 110, 116, 97, 116, 105, 118, 101, 32] ++ (dcm r.1 ++ (tUnit ++ dcm r.2))
def shareL (k : Int) : By := [115, 104, 97, 114, 101, 100, 32, 116, 114, 97, 99, 107, 32] ++ dcm k
def wordP (c : Int) : By := if c = 11 then [100, 97, 109, 97, 103, 101, 100] else if c = 12 then [111, 108, 100] else [101, 114, 114, 111, 114, 32] ++ dcm c
def refT (i u : Int) : By := if i = 0 ∧ u = 0 then [] else tOf ++ (dcm i ++ unitP u)
def badL (b : Bd) : By := [98, 97, 100, 32, 115, 101, 99, 116, 111, 114, 32] ++ (dcm b.sector ++ (refT b.id b.unit ++ ([58, 32] ++ wordP b.code)))
/-- The lines of a report. -/
def linesP (f u : Int) (te : List Rn) (sh : List Int) (ba : List Bd) : List By :=
  [[102, 114, 101, 101, 32] ++ dcm f, [117, 115, 101, 100, 32] ++ dcm u] ++ (te.map tentL ++ (sh.map shareL ++ ba.map badL))
theorem unit_len (k : Int) (h : okI k) : (unitP k).length ≤ 30 := by
  unfold unitP
  have := itoa_len k h
  split
  · simp
  · rw [List.length_append]; simp; omega
theorem word_len (k : Int) (h : okI k) : (wordP k).length ≤ 30 := by
  unfold wordP
  have := itoa_len k h
  split
  · simp
  · split
    · simp
    · rw [List.length_append]; simp; omega
theorem refT_len (i u : Int) (h : okI i) (k : okI u) : (refT i u).length ≤ 60 := by
  unfold refT
  have := itoa_len i h
  have := unit_len u k
  split
  · simp
  · rw [List.length_append, List.length_append]; simp [tOf]; omega

end Go.Proofs.YtcidbmldbikknaaGreatDoor

/-
  Words for the reference's Change: slices that lie apart from its own blocks. No condition.
-/
import Derived.Test.YtbocefnfhnnbjaaR9
import Derived.Deep.DeepCutAuto
namespace Go.Proofs.Ytbocefnfhnnbjaa
open Go.RowKit Go.Sort

/-- A slice of triples that lies apart from the blocks lo .. hi - 1. -/
structure TrisF (lo hi : Nat) (w : World) (a : Option Addr) (l : List Tri) : Prop where
  cells : l ≠ [] → ∃ b off, a = some ⟨b, off, none⟩ ∧ (b < lo ∨ hi ≤ b) ∧ b < w.heap.size ∧ ∀ j u, (flat3 l)[j]? = some u → w.cell? ⟨b, off + j, none⟩ = some u
  wf : ∀ x ∈ l, okR x
theorem TrisF.of {lo hi B : Nat} {w : World} {a l} (h : Tris w B a l) (hB : B ≤ lo) (hw : B ≤ w.heap.size) : TrisF lo hi w a l :=
  ⟨fun hl => by obtain ⟨b, off, h1, h2, h3⟩ := h.cells hl; exact ⟨b, off, h1, Or.inl (by omega), by omega, h3⟩, h.wf⟩
theorem TrisF.tris {lo hi : Nat} {w : World} {a l} (h : TrisF lo hi w a l) : Tris w w.heap.size a l :=
  ⟨fun hl => by obtain ⟨b, off, h1, _, h2, h3⟩ := h.cells hl; exact ⟨b, off, h1, h2, h3⟩, h.wf⟩
theorem TrisF.below {lo hi : Nat} {w w' : World} {a l} (h : TrisF lo hi w a l) (hb : Below w.heap.size w w') : TrisF lo hi w' a l :=
  ⟨fun hl => by obtain ⟨b, off, h1, h2, h3, h4⟩ := h.cells hl; exact ⟨b, off, h1, h2, Nat.lt_of_lt_of_le h3 hb.size, fun j u hj => (hb.cell (p := ⟨b, off + j, none⟩) h3).trans (h4 j u hj)⟩, h.wf⟩
theorem TrisF.set {lo hi : Nat} {w : World} {a l} (h : TrisF lo hi w a l) {p : Addr} (h1 : lo ≤ p.block) (h2 : p.block < hi) (u : Value) : TrisF lo hi (w.setCell p u) a l :=
  ⟨fun hl => by
    obtain ⟨b, off, e1, e2, e3, e4⟩ := h.cells hl
    refine ⟨b, off, e1, e2, by simp [World.setCell]; exact e3, fun j v hj => ?_⟩
    rw [← e4 j v hj]
    exact World.cell?_of_block (w := w) (a := ⟨b, off + j, none⟩) (Below.heap_setCell _ _ _ _ (by simp; omega)), h.wf⟩
theorem TrisF.row {lo hi : Nat} {w : World} {base : Nat} {e : TypeId} {v : Value} {l : List Tri} (h : w.ownsRow base e 3 v l.length (flat3 l)) (hb : hi ≤ base) (hl : ∀ x ∈ l, okR x) :
    ∃ a cap, v = .slice a l.length cap ∧ plainA a cap ∧ TrisF lo hi w a l := by
  obtain ⟨a, cap, rfl, ht⟩ := tris_of_row h hl
  refine ⟨a, cap, rfl, ?_, fun hl => ?_, hl⟩
  · rcases h.2 with ⟨e, hn⟩ | ⟨g, cap', cur, e, _⟩
    · injection e with e1 e2 e3; exact Or.inr ⟨e1, e3⟩
    · injection e with e1 e2 e3; exact Or.inl ⟨_, _, e1⟩
  · obtain ⟨b, off, h1, h2, h3⟩ := ht.cells hl
    refine ⟨b, off, h1, ?_, h2, h3⟩
    rcases h.2 with ⟨e, hn⟩ | ⟨g, cap', cur, e, hg, _⟩
    · exact absurd (List.length_eq_zero_iff.1 hn) hl
    · injection e with e1 e2 e3
      rw [h1] at e1
      injection e1 with e1; injection e1 with e1 e4
      omega
theorem tris_any {w : World} {B : Nat} {a : Option Addr} {cap : Nat} {l : List Tri} (h : Tris w B a l) (hp : plainA a cap) :
    (∃ p, a = some p ∧ ∀ j u, (flat3 l)[j]? = some u → w.cell? (p.add j) = some u) ∨ (a = none ∧ cap = 0 ∧ l.length = 0) := by
  rcases hp with ⟨b, off, rfl⟩ | ⟨rfl, rfl⟩
  · exact Or.inl ⟨_, rfl, tris_src h⟩
  · cases l with
    | nil => exact Or.inr ⟨rfl, rfl, rfl⟩
    | cons y l => obtain ⟨b, off, e, _⟩ := h.cells (by simp); simp at e
def chgV (V : List Tri) (id n : Int) (l : List Int) : List Tri := V ++ l.map (fun p => (id, p, n))
def chgE (E : List Tri) (id : Int) (l : List Int) : List Tri := l.foldl (fun E p => E.filter (keepE id p)) E
theorem chgV_snoc (V : List Tri) (id n : Int) (l : List Int) (p : Int) : chgV V id n (l ++ [p]) = chgV V id n l ++ [(id, p, n)] := by simp [chgV]
theorem chgE_snoc (E : List Tri) (id : Int) (l : List Int) (p : Int) : chgE E id (l ++ [p]) = (chgE E id l).filter (keepE id p) := by unfold chgE; rw [List.foldl_append]; rfl
theorem chgV_length (V : List Tri) (id n : Int) (l : List Int) : (chgV V id n l).length = V.length + l.length := by simp [chgV]
theorem chgE_sub (E : List Tri) (id : Int) (l : List Int) : ∀ x ∈ chgE E id l, x ∈ E := by
  induction l generalizing E with
  | nil => intro x h; exact h
  | cons p l ih => intro x h; exact (List.mem_filter.1 (ih _ x h)).1
theorem chgE_length (E : List Tri) (id : Int) (l : List Int) : (chgE E id l).length ≤ E.length := by
  induction l generalizing E with
  | nil => exact Nat.le_refl _
  | cons p l ih => exact Nat.le_trans (ih _) (List.length_filter_le _ _)

/-- What the loop of Change holds at each round's head, and what each of its two statements leaves. -/
structure ChgAt (w : World) (n : Int) (U F : List Tri) (va : Option Addr) (vcap : Nat) (ea : Option Addr) (ecap : Nat) (wx : World) : Prop where
  bel : Below w.heap.size w wx
  st : wx.heap[w.heap.size]? = some (.cells #[.int .i64 n, .slice va U.length vcap, .slice ea F.length ecap] 30)
  res : wx.heap[w.heap.size + 1]? = some (.cells #[.int .i64 0, .slice none 0 0, .slice none 0 0] 30)
  ver : TrisF w.heap.size (w.heap.size + 2) wx va U
  ent : TrisF w.heap.size (w.heap.size + 2) wx ea F
  vsh : plainA va vcap
  esh : plainA ea ecap
def ChgIs (w : World) (n : Int) (U F : List Tri) (wx : World) : Prop := ∃ va vcap ea ecap, ChgAt w n U F va vcap ea ecap wx
theorem chgAt_zero {w wx : World} {n id : Int} {l : List Int} {U F : List Tri} {va : Option Addr} {vcap : Nat} {ea : Option Addr} {ecap : Nat} (h : ChgAt w n U F va vcap ea ecap wx) : ChgIs w n (chgV U id n (l.take 0)) (chgE F id (l.take 0)) wx := by
  rw [List.take_zero]
  show ChgIs w n (U ++ []) F wx
  rw [List.append_nil]; exact ⟨_, _, _, _, h⟩
theorem ChgAt.setV {w wz w2 : World} {n : Int} {U U2 F : List Tri} {va : Option Addr} {vcap : Nat} {ea : Option Addr} {ecap : Nat} (h : ChgAt w n U F va vcap ea ecap wz) (hb : Below wz.heap.size wz w2) {va2 : Option Addr} {vcap2 k : Nat} (hk : k = U2.length)
    (ho : w2.ownsRow wz.heap.size 86 3 (.slice va2 k vcap2) U2.length (flat3 U2)) (hU : ∀ x ∈ U2, okR x) : ChgIs w n U2 F (w2.setCell ⟨w.heap.size, 1, none⟩ (.slice va2 k vcap2)) := by
  subst hk
  have hw1 : w.heap.size + 1 < wz.heap.size := lt_of_block h.res
  obtain ⟨a, cap, e, hp, ht⟩ := TrisF.row (lo := w.heap.size) (hi := w.heap.size + 2) ho (by omega) hU
  injection e with e1 _ e3
  subst e1 e3
  refine ⟨_, _, _, _, (h.bel.trans (hb.mono h.bel.size)).setCell (Nat.le_refl _) _, ?_, (Below.heap_setCell _ _ _ _ (by simp)).trans (heap_below hb hw1 h.res), ht.set (Nat.le_refl _) (by simp) _, (h.ent.below hb).set (Nat.le_refl _) (by simp) _, hp, h.esh⟩
  exact cell_row_any _ _ _ _ _ _ _ (heap_below hb (lt_of_block h.st) h.st)
theorem ChgAt.setE {w wz w2 : World} {n : Int} {U F F2 : List Tri} {va : Option Addr} {vcap : Nat} {ea : Option Addr} {ecap : Nat} (h : ChgAt w n U F va vcap ea ecap wz) (hb : Below wz.heap.size wz w2) {v : Value}
    (ho : w2.ownsRow wz.heap.size 75 3 v F2.length (flat3 F2)) (hF : ∀ x ∈ F2, okR x) : ChgIs w n U F2 (w2.setCell ⟨w.heap.size, 2, none⟩ v) := by
  have hw1 : w.heap.size + 1 < wz.heap.size := lt_of_block h.res
  obtain ⟨a, cap, rfl, hp, ht⟩ := TrisF.row (lo := w.heap.size) (hi := w.heap.size + 2) ho (by omega) hF
  refine ⟨_, _, _, _, (h.bel.trans (hb.mono h.bel.size)).setCell (Nat.le_refl _) _, ?_, (Below.heap_setCell _ _ _ _ (by simp)).trans (heap_below hb hw1 h.res), (h.ver.below hb).set (Nat.le_refl _) (by simp) _, ht.set (Nat.le_refl _) (by simp) _, h.vsh, hp⟩
  exact cell_row_any _ _ _ _ _ _ _ (heap_below hb (lt_of_block h.st) h.st)

end Go.Proofs.Ytbocefnfhnnbjaa

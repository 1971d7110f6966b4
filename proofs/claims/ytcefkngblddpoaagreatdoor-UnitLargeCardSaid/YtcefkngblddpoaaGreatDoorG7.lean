/-
  Walks: where the next record of an entry-sequenced data set begins, by the program. Conditions: not too many records. Walks: the end behind pairs, by the program; pairs in memory. Conditions: not too many pairs.
-/
import Derived.Test.YtcefkngblddpoaaGreatDoorG6
import Derived.Test.YtcefkngblddpoaaGreatDoorG3
import Derived.Test.YtcefkngblddpoaaGreatDoorShelf
import Derived.Test.YtcefkngblddpoaaGreatDoorG4
import Derived.Deep.RegionHeld3
namespace Go.Proofs.YtcefkngblddpoaaGreatDoor
section
open Go.RowKit Go.Sort
variable {z : Rest}
theorem infoS : (Tryz.prog.info? 9).map (fun i => (i.zero, i.size, i.bytes)) = some (some (.string ByteArray.empty), 1, 16) := by kernel_rfl
theorem row_all' {w : World} {base : Nat} {e : TypeId} {v : Value} {l : List By} (h : w.ownsRow base e 1 v l.length (l.map sv)) : ∃ a cap, v = .slice a l.length cap ∧ Strs w w.heap.size a l ∧ l.length ≤ cap ∧ cap ≤ 9223372036854775807 := by
 have h0 := h
 obtain ⟨a, c, rfl, hs, hc⟩ := strs_of_row h
 refine ⟨a, c, rfl, hs, hc, ?_⟩
 rcases h0.2 with ⟨h1, _⟩ | ⟨g, cap, cur, h1, _, _, q1, q2, _⟩
 · have := (Value.slice.inj h1).2.2; omega
 · have := (Value.slice.inj h1).2.2; unfold maxLen at q2; omega
/-! The end as a value. -/
abbrev enC (page : Nat) (A : Option Addr) (n C : Nat) (used : Nat) : Array Value := #[.int .i64 (page : Int), .slice A n C, .int .i64 (used : Int)]
structure EnAt (w : World) (B : Nat) (x : En) (cs : Array Value) : Prop where
 ex : ∃ A C, cs = enC x.page A x.on.length C x.used ∧ Strs w B A x.on ∧ x.on.length ≤ C ∧ C ≤ 9223372036854775807
theorem heap_setRow_other' (w : World) {g i : Nat} (cs : Array Value) (hi : i < w.heap.size) (h : i ≠ g) : (w.setRow g cs).heap[i]? = w.heap[i]? :=
 (Only.setRow (Only.refl [g] w) (Or.inl (by simp)) cs).block i hi (by simpa using h)
theorem one_en {a b : Int} {A : Option Addr} {n C : Nat} : (#[Value.int .i64 a, .slice A n C, .int .i64 b] : Array Value).all (·.oneCell') = true := by simp [Value.oneCell']
end
section
open Go.RowKit Go.Sort
variable {z : Rest}
/-- Pairs in memory, below block B. -/
structure Prs (w : World) (B : Nat) (a : Option Addr) (l : List Pr) : Prop where
 cells : l ≠ [] → ∃ b off, a = some ⟨b, off, none⟩ ∧ b < B ∧ ∀ i (h : i < l.length), w.cell? ⟨b, off + i * 2, none⟩ = some (.string ⟨l[i].1.toArray⟩) ∧ w.cell? ⟨b, off + i * 2 + 1, none⟩ = some (.string ⟨l[i].2.toArray⟩)
theorem Prs.below {w w' : World} {B a l} (h : Prs w B a l) (hb : Below B w w') : Prs w' B a l :=
 ⟨fun hl => by
   obtain ⟨b, off, h1, h2, h3⟩ := h.cells hl
   exact ⟨b, off, h1, h2, fun i hi => ⟨(hb.cell (p := ⟨b, off + i * 2, none⟩) h2).trans (h3 i hi).1, (hb.cell (p := ⟨b, off + i * 2 + 1, none⟩) h2).trans (h3 i hi).2⟩⟩⟩
theorem Prs.mono {w : World} {B B' a l} (h : Prs w B a l) (hB : B ≤ B') : Prs w B' a l :=
 ⟨fun hl => by obtain ⟨b, off, h1, h2, h3⟩ := h.cells hl; exact ⟨b, off, h1, by omega, h3⟩⟩
theorem Prs.get {w : World} {B a l} (h : Prs w B a l) {i : Nat} (hi : i < l.length) : ∃ b off, a = some ⟨b, off, none⟩ ∧ b < B ∧ w.cell? ⟨b, off + i * 2, none⟩ = some (.string ⟨l[i].1.toArray⟩) ∧ w.cell? ⟨b, off + i * 2 + 1, none⟩ = some (.string ⟨l[i].2.toArray⟩) := by
 obtain ⟨b, off, h1, h2, h3⟩ := h.cells (fun e => by rw [e] at hi; simp at hi)
 exact ⟨b, off, h1, h2, h3 i hi⟩
theorem Prs.take {w : World} {B a l} (h : Prs w B a l) (k : Nat) : Prs w B a (l.take k) :=
 ⟨fun hl => by
   have hn : l ≠ [] := fun e => hl (by rw [e]; simp)
   obtain ⟨b, off, h1, h2, h3⟩ := h.cells hn
   refine ⟨b, off, h1, h2, fun i hi => ?_⟩
   have hi' : i < l.length := by rw [List.length_take] at hi; omega
   rw [List.getElem_take]; exact h3 i hi'⟩
theorem sum_le {l : List Nat} {k : Nat} (h : ∀ x ∈ l, x ≤ k) : l.sum ≤ l.length * k := by
 induction l with
 | nil => simp
 | cons x l ih =>
   have h1 := ih (fun y hy => h y (List.mem_cons_of_mem _ hy))
   have h2 := h x (by simp)
   rw [List.sum_cons, List.length_cons, Nat.add_mul]; omega
theorem EnAt.below {w w' : World} {B : Nat} {x : En} {cs : Array Value} (h : EnAt w B x cs) (hb : Below B w w') : EnAt w' B x cs := by
 obtain ⟨A, C, h1, h2, h3⟩ := h.ex; exact ⟨A, C, h1, h2.below hb, h3⟩
theorem EnAt.mono {w : World} {B B' : Nat} {x : En} {cs : Array Value} (h : EnAt w B x cs) (hB : B ≤ B') : EnAt w B' x cs := by
 obtain ⟨A, C, h1, h2, h3⟩ := h.ex; exact ⟨A, C, h1, h2.mono hB, h3⟩
theorem EnAt.size {w : World} {B : Nat} {x : En} {cs : Array Value} (h : EnAt w B x cs) : cs.size = 3 := by
 obtain ⟨A, C, rfl, _⟩ := h.ex; rfl
theorem EnAt.one {w : World} {B : Nat} {x : En} {cs : Array Value} (h : EnAt w B x cs) : cs.all (·.oneCell') = true := by
 obtain ⟨A, C, rfl, _⟩ := h.ex; exact one_en
/-- A store into a block without texts. -/
theorem EnAt.setRow {w : World} {B g : Nat} {x y : En} {cs old cs' : Array Value} {t : TypeId} {fr : Nat × Nat} (h : EnAt w B x cs) (hy : ∃ A C, old = enC y.page A y.on.length C y.used) (hg : w.heap[g]? = some (.cells old t fr)) (hB : B ≤ w.heap.size) : EnAt (w.setRow g cs') B x cs := by
 obtain ⟨A, C, h1, h2, h3⟩ := h.ex
 refine ⟨A, C, h1, ⟨fun hn => ?_⟩, h3⟩
 obtain ⟨b, off, rfl, hb, hc⟩ := h2.cells hn
 refine ⟨b, off, rfl, hb, fun i hi => ?_⟩
 have hbg : b ≠ g := by
  rintro rfl
  have := hc i hi
  rw [cell_of_row w b _ old t fr hg] at this
  obtain ⟨A', C', rfl⟩ := hy
  rcases (show off + i = 0 ∨ off + i = 1 ∨ off + i = 2 ∨ 3 ≤ off + i by omega) with e | e | e | e
  · rw [e] at this; simp [enC] at this
  · rw [e] at this; simp [enC] at this
  · rw [e] at this; simp [enC] at this
  · rw [Array.getElem?_eq_none (by simpa [enC] using e)] at this; cases this
 exact (show (w.setRow g cs').cell? ⟨b, off + i, none⟩ = w.cell? ⟨b, off + i, none⟩ by
  unfold World.cell?
  rw [heap_setRow_other' w cs' (by omega) hbg]).trans (hc i hi)
end
end Go.Proofs.YtcefkngblddpoaaGreatDoor

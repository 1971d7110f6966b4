/-
  How the acts that come in lie in memory. No condition.
-/
import Derived.Test.YtbocefnfhnnbjaaW5
import Derived.Deep.Slices
import Derived.ProofKit
namespace Go.Proofs.Ytbocefnfhnnbjaa
open Go.RowKit Go.Sort Go.Deep

structure ActR where
  kind : Int
  sys : Int
  id : Int
  pg : Int
  pa : Option Addr
  pcap : Nat
  pages : List Int

instance : Inhabited ActR := ⟨⟨0, 0, 0, 0, none, 0, []⟩⟩
def ActR.cells (x : ActR) : List Value := [.int .i64 x.kind, .int .i64 x.sys, .int .i64 x.id, .int .i64 x.pg, .slice x.pa x.pages.length x.pcap]
structure ActR.Ok (w : World) (B : Nat) (x : ActR) : Prop where
  kind : I64 x.kind
  sys : I64 x.sys
  id : I64 x.id
  pg : I64 x.pg
  pages : Ints w B x.pa x.pages
/-- The acts lie below block B. -/
structure Acts (w : World) (B : Nat) (a : Option Addr) (l : List ActR) : Prop where
  cells : l ≠ [] → ∃ b off, a = some ⟨b, off, none⟩ ∧ b < B ∧ ∀ i (h : i < l.length) j, j < 5 → w.cell? ⟨b, off + (i * 5 + j), none⟩ = (l[i].cells)[j]?
  ok : ∀ x ∈ l, x.Ok w B
theorem Acts.below {w w' : World} {B a l} (h : Acts w B a l) (hb : Below B w w') : Acts w' B a l :=
  ⟨fun hl => by obtain ⟨b, off, h1, h2, h3⟩ := h.cells hl; exact ⟨b, off, h1, h2, fun i hi j hj => (hb.cell (p := ⟨b, off + (i * 5 + j), none⟩) h2).trans (h3 i hi j hj)⟩,
   fun x hx => ⟨(h.ok x hx).kind, (h.ok x hx).sys, (h.ok x hx).id, (h.ok x hx).pg, (h.ok x hx).pages.below hb⟩⟩

theorem spot_none {w : World} {x : Addr} {v : Value} (h : w.cell? x = some v) : x.spot = none := by
  unfold World.cell? at h
  split at h
  · split at h
    · simp at h
    · rename_i hs; simpa using hs
  · simp at h
theorem add_plain (b off n : Nat) : (⟨b, off, none⟩ : Addr).add n = ⟨b, off + n, none⟩ := by
  unfold Addr.add; split <;> simp_all

section
variable {H : Type} {enc : TypeId × Value → H} {w : World} {sp : Nat → Bool} {held : Bool}

theorem open_pages {n : Nat} {v : Value} {x : DataW H × List MemPlace} (h : DataW.trod enc Try.prog w 0 sp held n 31 [v] = some x) :
    ∃ a cap l, v = .slice a l.length cap ∧ Ints w w.heap.size a l := by
  rcases open_slice1 (e := 3) Try.underlying31 cells3 h with ⟨hc, _⟩ | ⟨a, len, cap, m, n', V, D, Pl, hc, _, hl, hcap, hm, _, hV⟩
  · obtain rfl : v = .slice none 0 0 := by simpa using hc
    exact ⟨none, 0, [], rfl, fun h => absurd rfl h, fun x hx => by simp at hx⟩
  · obtain rfl : v = .slice (some a) len cap := by simpa using hc
    have hlm : len ≤ m := by subst hm; split <;> omega
    have key : ∀ i, i < len → ∃ z : Int, w.cell? (a.add i) = some (.int .i64 z) ∧ I64 z := by
      intro i hi
      obtain ⟨h1, h2⟩ := hV i (by omega)
      obtain ⟨z, e, _, hw⟩ := DataW.trod_int u3 h2
      rw [show V i = .int .i64 z by simpa using e] at h1
      exact ⟨z, h1, hw⟩
    obtain ⟨Z, hZ⟩ := choose_lt (α := Int) (p := fun i z => w.cell? (a.add i) = some (.int .i64 z) ∧ I64 z) key
    refine ⟨some a, cap, (List.range len).map Z, by simp, ?_, ?_⟩
    · intro hne
      have h0 : 0 < len := by rcases Nat.eq_zero_or_pos len with h | h
                              · subst h; simp at hne
                              · exact h
      have hc0 := (hZ 0 h0).1
      have e0 : a.add 0 = a := by simp [Addr.add]
      rw [e0] at hc0
      have hs := spot_none hc0
      obtain ⟨b, off, spot⟩ := a
      simp only at hs
      subst hs
      refine ⟨b, off, rfl, block_lt_of_cell hc0, fun i hi => ?_⟩
      rw [List.length_map, List.length_range] at hi
      have := (hZ i hi).1
      rw [add_plain] at this
      rw [this]; simp
    · intro x hx
      obtain ⟨i, hi, rfl⟩ := List.mem_map.1 hx
      exact (hZ i (List.mem_range.1 hi)).2

theorem cells33 : Try.prog.cellsOf 33 = 5 := by kernel_rfl
theorem cells31 : Try.prog.cellsOf 31 = 1 := by kernel_rfl

set_option maxRecDepth 100000 in
theorem open_act {n : Nat} {cs : List Value} {x : DataW H × List MemPlace} (h : DataW.trod enc Try.prog w 0 sp held n 33 cs = some x) :
    ∃ r : ActR, cs = r.cells ∧ r.Ok w w.heap.size := by
  obtain ⟨xs, m, _, _, hl, hlen, hf⟩ := DataW.trod_struct Try.underlying33 h
  rw [cells33] at hl
  match cs, hl, xs, hlen with
  | [c0, c1, c2, c3, c4], _, [y0, y1, y2, y3, y4], _ =>
    have f0 := hf 0 _ rfl
    have f1 := hf 1 _ rfl
    have f2 := hf 2 _ rfl
    have f3 := hf 3 _ rfl
    have f4 := hf 4 _ rfl
    simp [cells3, cells31] at f0 f1 f2 f3 f4
    obtain ⟨k0, e0, _, w0⟩ := DataW.trod_int u3 f0
    obtain ⟨k1, e1, _, w1⟩ := DataW.trod_int u3 f1
    obtain ⟨k2, e2, _, w2⟩ := DataW.trod_int u3 f2
    obtain ⟨k3, e3, _, w3⟩ := DataW.trod_int u3 f3
    obtain ⟨a, cap, l, e4, hi⟩ := open_pages f4
    simp at e0 e1 e2 e3
    subst e0 e1 e2 e3 e4
    exact ⟨⟨k0, k1, k2, k3, a, cap, l⟩, rfl, w0, w1, w2, w3, hi⟩

theorem open_acts {v : Value} {d : DataW H} {ps : List MemPlace} (h : DataW.Trod enc Try.prog w 0 sp held 22 v d ps) (hv : ∃ a len cap, v = .slice a len cap) :
    ∃ a cap l, v = .slice a l.length cap ∧ Acts w w.heap.size a l ∧ l.length ≤ maxLen := by
  obtain ⟨n, hn⟩ := h
  obtain ⟨a0, len0, cap0, rfl⟩ := hv
  rcases open_slice (e := 33) Try.underlying22 hn with ⟨hc, _⟩ | ⟨a, len, cap, m, n', D, Pl, hc, _, hl, hcap, hm, _, hV⟩
  · simp [Value.cells] at hc
    obtain ⟨rfl, rfl, rfl⟩ := hc
    exact ⟨none, 0, [], rfl, ⟨fun h => absurd rfl h, fun x hx => by simp at hx⟩, Nat.zero_le _⟩
  · simp [Value.cells] at hc
    obtain ⟨rfl, rfl, rfl⟩ := hc
    have hlm : len0 ≤ m := by subst hm; split <;> omega
    have key : ∀ i, i < len0 → ∃ r : ActR, w.cells? 0 (a.add (i * 5)) 5 = some r.cells ∧ r.Ok w w.heap.size := by
      intro i hi
      obtain ⟨cs, h1, h2⟩ := hV i (by omega)
      obtain ⟨r, rfl, hr⟩ := open_act h2
      rw [cells33] at h1
      exact ⟨r, h1, hr⟩
    obtain ⟨Z, hZ⟩ := choose_lt (α := ActR) (p := fun i r => w.cells? 0 (a.add (i * 5)) 5 = some r.cells ∧ r.Ok w w.heap.size) key
    refine ⟨some a, cap0, (List.range len0).map Z, by simp, ⟨?_, ?_⟩, by rw [List.length_map, List.length_range]; omega⟩
    · intro hne
      have h0 : 0 < len0 := by rcases Nat.eq_zero_or_pos len0 with h | h
                               · subst h; simp at hne
                               · exact h
      have hc0 := (World.cells?_some (hZ 0 h0).1).2.2 0 (by omega)
      have e0 : (a.add (0 * 5)).add 0 = a := by simp [Addr.add]
      rw [e0] at hc0
      have hs := spot_none (v := .int .i64 (Z 0).kind) hc0
      obtain ⟨b, off, spot⟩ := a
      simp only at hs
      subst hs
      refine ⟨b, off, rfl, block_lt_of_cell (v := .int .i64 (Z 0).kind) hc0, fun i hi j hj => ?_⟩
      rw [List.length_map, List.length_range] at hi
      have := (World.cells?_some (hZ i hi).1).2.2 j hj
      rw [add_plain, add_plain] at this
      rw [← Nat.add_assoc, this]; simp
    · intro x hx
      obtain ⟨i, hi, rfl⟩ := List.mem_map.1 hx
      exact (hZ i (List.mem_range.1 hi)).2
end

end Go.Proofs.Ytbocefnfhnnbjaa

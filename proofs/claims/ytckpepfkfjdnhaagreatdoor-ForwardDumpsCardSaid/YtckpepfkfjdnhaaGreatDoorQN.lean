/-
  Walks: IndexFunc and ContainsFunc at pointers and pairs. Conditions: the elements in memory; the closure's contract.
  Walks: the place of a key among pairs, by the program and by the reference. Conditions: pairs in memory, not too many.
  Rows of pairs, cell by cell; the walk of a copy of pairs. Condition: pairs in memory, not too many.
-/
import Derived.Test.YtckpepfkfjdnhaaGreatDoorQM
import Derived.Test.YtckpepfkfjdnhaaGreatDoorQG
import Derived.BigQuiet
namespace Go.Proofs.YtckpepfkfjdnhaaGreatDoor

section
open Go.RowKit Go.Sort

/-- The index of the first element that meets p, or -1. -/
def fidx {α : Type} (p : α → Bool) (l : List α) : Int := match l.findIdx? p with
 | some i => (i : Int)
 | none => -1
theorem fidx_none {α : Type} {p : α → Bool} {l : List α} (h : ∀ x ∈ l, p x = false) : fidx p l = -1 := by
 unfold fidx
 have : l.findIdx? p = none := by rw [List.findIdx?_eq_none_iff]; exact h
 rw [this]
theorem fidx_at {α : Type} {p : α → Bool} {l : List α} {j : Nat} (hj : j < l.length) (h : ∀ x ∈ l.take j, p x = false) (hp : p l[j] = true) : fidx p l = (j : Int) := by
 unfold fidx
 have : l.findIdx? p = some j := by
   rw [List.findIdx?_eq_some_iff_getElem]
   refine ⟨hj, hp, fun i hi => ?_⟩
   have := h l[i] (List.mem_take_iff_getElem.2 ⟨i, by omega, rfl⟩)
   rw [this]; simp
 rw [this]
theorem fidx_any {α : Type} {p : α → Bool} {l : List α} (h : l.any p = true) : 0 ≤ fidx p l := by
 unfold fidx
 cases hq : l.findIdx? p with
 | some i => simp
 | none =>
   rw [List.findIdx?_eq_none_iff] at hq
   obtain ⟨x, hx, hp⟩ := List.any_eq_true.1 h
   rw [hq x hx] at hp; cases hp

/-- Pointers in memory. -/
structure Ptrs (w : World) (B : Nat) (a : Option Addr) (l : List Addr) : Prop where
 cells : l ≠ [] → ∃ b off, a = some ⟨b, off, none⟩ ∧ b < B ∧ ∀ i (h : i < l.length), w.cell? ⟨b, off + i, none⟩ = some (.pointer (some l[i]))
theorem Ptrs.get {w : World} {B a l} (h : Ptrs w B a l) {i : Nat} (hi : i < l.length) : ∃ b off, a = some ⟨b, off, none⟩ ∧ b < B ∧ w.cell? ⟨b, off + i, none⟩ = some (.pointer (some l[i])) := by
 obtain ⟨b, off, h1, h2, h3⟩ := h.cells (fun e => by rw [e] at hi; simp at hi)
 exact ⟨b, off, h1, h2, h3 i hi⟩

set_option maxRecDepth 100000 in
set_option maxHeartbeats 2000000 in
theorem idxptr_any (w : World) (B : Nat) (a : Option Addr) (cap : Nat) (l : List Addr) (p : Addr → Bool) (h : Ptrs w B a l) (hB : B ≤ w.heap.size) (hl : l.length ≤ 1000000)
   (hF : ∀ (W : World) (x : Addr), x ∈ l → Below w.heap.size w W → Calls Tryz.prog 75 #[.pointer (some x)] W fun e w' => e = .returned (.bool (p x)) ∧ Below W.heap.size W w') :
   Calls Tryz.prog 127 #[.slice a l.length cap, .func (.func 75) #[] #[]] w fun e w' => e = .returned (.int .i64 (fidx p l)) ∧ Below w.heap.size w w' := by
 have HF := Lib.hid hF
 have HS := Lib.hid h
 clear hF h
 go_enter Tryz.func127, Tryz.ntmps127
 go_wp2_with fail
 go_loopw [5, 8] (fun _ i wr => ∃ j : Nat, j ≤ l.length ∧ i = .int .i64 j ∧ (∀ x ∈ l.take j, p x = false) ∧ Below w.heap.size w wr) (fun _ i _ => l.length - (intOf i).toNat)
 case atStart => exact ⟨0, by omega, rfl, by simp, Below.refl _ _⟩
 case round =>
   obtain ⟨j, hj, rfl, hno, hb⟩ := hrel
   have HB := Lib.hid hb
   have HNO := Lib.hid hno
   clear hb hno
   by_cases hlt : j < l.length
   · have hmem := List.getElem_mem hlt
     obtain ⟨b, off, rfl, hbb, hc1⟩ := HS.out.get hlt
     have hr1 : wr.cell? ⟨b, off + j, none⟩ = some (.pointer (some l[j])) := ((HB.out.mono hB).cell (p := ⟨b, off + j, none⟩) hbb).trans hc1
     clear hc1
     have HC := Lib.hid (HF.out wr l[j] hmem HB.out)
     have HN := Lib.hid (fun (hp : p l[j] = false) => show ∀ x ∈ l.take (j + 1), p x = false by
       intro x hx
       rw [List.take_succ_eq_append_getElem hlt] at hx
       rcases List.mem_append.1 hx with hx | hx
       · exact HNO.out x hx
       · obtain rfl := List.mem_singleton.1 hx; exact hp)
     have HY := Lib.hid (fun (hp : p l[j] = true) => fidx_at (p := p) hlt HNO.out hp)
     clear hmem
     generalize l[j] = x at HC HN HY hr1
     cases hp : p x with
     | true =>
       rw [hp] at HC
       have HR := Lib.hid (HY.out hp)
       clear hp
       go_wp2_with fail
       refine HC.out.mono ?_
       rintro e w2 ⟨rfl, hb2⟩
       have HB2 := Lib.hid (HB.out.trans (hb2.mono HB.out.size))
       clear hb2
       go_wp2_with fail
       go_ret
       exact ⟨by rw [HR.out]; rfl, HB2.out⟩
     | false =>
       rw [hp] at HC
       have HR := Lib.hid (HN.out hp)
       clear hp
       go_wp2_with fail
       refine HC.out.mono ?_
       rintro e w2 ⟨rfl, hb2⟩
       have HB2 := Lib.hid (HB.out.trans (hb2.mono HB.out.size))
       clear hb2
       go_wp2_with fail
       go_roundw
       case rel => exact ⟨j + 1, by omega, by go_num, HR.out, HB2.out⟩
       case measure => simp [intOf]; omega
   · have HR := Lib.hid (show fidx p l = -1 by
       have := HNO.out
       rw [List.take_of_length_le (by omega)] at this
       exact fidx_none this)
     go_wp2_with fail
     go_ret
     exact ⟨by rw [HR.out]; rfl, HB.out⟩
set_option maxRecDepth 100000 in
set_option maxHeartbeats 1000000 in
theorem contptr_any (w : World) (B : Nat) (a : Option Addr) (cap : Nat) (l : List Addr) (p : Addr → Bool) (h : Ptrs w B a l) (hB : B ≤ w.heap.size) (hl : l.length ≤ 1000000)
   (hF : ∀ (W : World) (x : Addr), x ∈ l → Below w.heap.size w W → Calls Tryz.prog 75 #[.pointer (some x)] W fun e w' => e = .returned (.bool (p x)) ∧ Below W.heap.size W w') :
   Calls Tryz.prog 74 #[.slice a l.length cap, .func (.func 75) #[] #[]] w fun e w' => e = .returned (.bool (l.any p)) ∧ Below w.heap.size w w' := by
 have HI := Lib.hid (idxptr_any w B a cap l p h hB hl hF)
 clear hF h
 cases hq : l.any p with
 | true =>
   have hpos : 0 ≤ fidx p l := fidx_any hq
   generalize fidx p l = n at HI hpos
   clear hq
   go_enter Tryz.func74, Tryz.ntmps74
   go_wp2_with fail
   refine HI.out.mono ?_
   rintro e w1 ⟨rfl, hb⟩
   go_wp2_with fail
   go_ret
   exact ⟨rfl, hb⟩
 | false =>
   have hneg : fidx p l = -1 := fidx_none (fun x hx => by
     rw [List.any_eq_false] at hq
     have := hq x hx
     simpa using this)
   rw [hneg] at HI
   clear hneg hq
   go_enter Tryz.func74, Tryz.ntmps74
   go_wp2_with fail
   refine HI.out.mono ?_
   rintro e w1 ⟨rfl, hb⟩
   go_wp2_with fail
   go_ret
   exact ⟨rfl, hb⟩
set_option maxRecDepth 100000 in
set_option maxHeartbeats 2000000 in
theorem idxpr_any (w : World) (B : Nat) (a : Option Addr) (cap : Nat) (l : List Pr) (p : Pr → Bool) (h : Prs w B a l) (hB : B ≤ w.heap.size) (hl : l.length ≤ 1000000)
   (hF : ∀ (W : World) (x : Pr), x ∈ l → Below w.heap.size w W → Calls Tryz.prog 78 #[.agg #[.string ⟨x.1.toArray⟩, .string ⟨x.2.toArray⟩]] W fun e w' => e = .returned (.bool (p x)) ∧ Below W.heap.size W w') :
   Calls Tryz.prog 128 #[.slice a l.length cap, .func (.func 78) #[] #[]] w fun e w' => e = .returned (.int .i64 (fidx p l)) ∧ Below w.heap.size w w' := by
 have HF := Lib.hid hF
 have HS := Lib.hid h
 clear hF h
 go_enter Tryz.func128, Tryz.ntmps128
 go_wp2_with fail
 go_loopw [5, 8] (fun _ i wr => ∃ j : Nat, j ≤ l.length ∧ i = .int .i64 j ∧ (∀ x ∈ l.take j, p x = false) ∧ Below w.heap.size w wr) (fun _ i _ => l.length - (intOf i).toNat)
 case atStart => exact ⟨0, by omega, rfl, by simp, Below.refl _ _⟩
 case round =>
   obtain ⟨j, hj, rfl, hno, hb⟩ := hrel
   have HB := Lib.hid hb
   have HNO := Lib.hid hno
   clear hb hno
   by_cases hlt : j < l.length
   · have hmem := List.getElem_mem hlt
     obtain ⟨b, off, rfl, hbb, hc1, hc2⟩ := HS.out.get hlt
     have hr1 : wr.cell? ⟨b, off + j * 2, none⟩ = some (.string ⟨l[j].1.toArray⟩) := ((HB.out.mono hB).cell (p := ⟨b, off + j * 2, none⟩) hbb).trans hc1
     have hr2 : wr.cell? ⟨b, off + j * 2 + 1, none⟩ = some (.string ⟨l[j].2.toArray⟩) := ((HB.out.mono hB).cell (p := ⟨b, off + j * 2 + 1, none⟩) hbb).trans hc2
     clear hc1 hc2
     have HC := Lib.hid (HF.out wr l[j] hmem HB.out)
     have HN := Lib.hid (fun (hp : p l[j] = false) => show ∀ x ∈ l.take (j + 1), p x = false by
       intro x hx
       rw [List.take_succ_eq_append_getElem hlt] at hx
       rcases List.mem_append.1 hx with hx | hx
       · exact HNO.out x hx
       · obtain rfl := List.mem_singleton.1 hx; exact hp)
     have HY := Lib.hid (fun (hp : p l[j] = true) => fidx_at (p := p) hlt HNO.out hp)
     clear hmem
     generalize l[j] = x at HC HN HY hr1 hr2
     cases hp : p x with
     | true =>
       rw [hp] at HC
       have HR := Lib.hid (HY.out hp)
       clear hp
       go_wp2_with fail
       refine HC.out.mono ?_
       rintro e w2 ⟨rfl, hb2⟩
       have HB2 := Lib.hid (HB.out.trans (hb2.mono HB.out.size))
       clear hb2
       go_wp2_with fail
       go_ret
       exact ⟨by rw [HR.out]; rfl, HB2.out⟩
     | false =>
       rw [hp] at HC
       have HR := Lib.hid (HN.out hp)
       clear hp
       go_wp2_with fail
       refine HC.out.mono ?_
       rintro e w2 ⟨rfl, hb2⟩
       have HB2 := Lib.hid (HB.out.trans (hb2.mono HB.out.size))
       clear hb2
       go_wp2_with fail
       go_roundw
       case rel => exact ⟨j + 1, by omega, by go_num, HR.out, HB2.out⟩
       case measure => simp [intOf]; omega
   · have HR := Lib.hid (show fidx p l = -1 by
       have := HNO.out
       rw [List.take_of_length_le (by omega)] at this
       exact fidx_none this)
     go_wp2_with fail
     go_ret
     exact ⟨by rw [HR.out]; rfl, HB.out⟩
set_option maxRecDepth 100000 in
set_option maxHeartbeats 1000000 in
theorem contpr_any (w : World) (B : Nat) (a : Option Addr) (cap : Nat) (l : List Pr) (p : Pr → Bool) (h : Prs w B a l) (hB : B ≤ w.heap.size) (hl : l.length ≤ 1000000)
   (hF : ∀ (W : World) (x : Pr), x ∈ l → Below w.heap.size w W → Calls Tryz.prog 78 #[.agg #[.string ⟨x.1.toArray⟩, .string ⟨x.2.toArray⟩]] W fun e w' => e = .returned (.bool (p x)) ∧ Below W.heap.size W w') :
   Calls Tryz.prog 77 #[.slice a l.length cap, .func (.func 78) #[] #[]] w fun e w' => e = .returned (.bool (l.any p)) ∧ Below w.heap.size w w' := by
 have HI := Lib.hid (idxpr_any w B a cap l p h hB hl hF)
 clear hF h
 cases hq : l.any p with
 | true =>
   have hpos : 0 ≤ fidx p l := fidx_any hq
   generalize fidx p l = n at HI hpos
   clear hq
   go_enter Tryz.func77, Tryz.ntmps77
   go_wp2_with fail
   refine HI.out.mono ?_
   rintro e w1 ⟨rfl, hb⟩
   go_wp2_with fail
   go_ret
   exact ⟨rfl, hb⟩
 | false =>
   have hneg : fidx p l = -1 := fidx_none (fun x hx => by
     rw [List.any_eq_false] at hq
     have := hq x hx
     simpa using this)
   rw [hneg] at HI
   clear hneg hq
   go_enter Tryz.func77, Tryz.ntmps77
   go_wp2_with fail
   refine HI.out.mono ?_
   rintro e w1 ⟨rfl, hb⟩
   go_wp2_with fail
   go_ret
   exact ⟨rfl, hb⟩
set_option maxRecDepth 100000 in
set_option maxHeartbeats 2000000 in
theorem idxfind_any (w : World) (B : Nat) (a : Option Addr) (cap : Nat) (l : List Pr) (g : Addr) (p : Pr → Bool) (h : Prs w B a l) (hB : B ≤ w.heap.size) (hl : l.length ≤ 1000000)
   (hF : ∀ (W : World) (x : Pr), x ∈ l → Below w.heap.size w W → Calls Tryz.prog 165 #[.agg #[.string ⟨x.1.toArray⟩, .string ⟨x.2.toArray⟩], .pointer (some g)] W fun e w' => e = .returned (.bool (p x)) ∧ Below W.heap.size W w') :
   Calls Tryz.prog 128 #[.slice a l.length cap, .func (.func 165) #[] #[.pointer (some g)]] w fun e w' => e = .returned (.int .i64 (fidx p l)) ∧ Below w.heap.size w w' := by
 have HF := Lib.hid hF
 have HS := Lib.hid h
 clear hF h
 go_enter Tryz.func128, Tryz.ntmps128
 go_wp2_with fail
 go_loopw [5, 8] (fun _ i wr => ∃ j : Nat, j ≤ l.length ∧ i = .int .i64 j ∧ (∀ x ∈ l.take j, p x = false) ∧ Below w.heap.size w wr) (fun _ i _ => l.length - (intOf i).toNat)
 case atStart => exact ⟨0, by omega, rfl, by simp, Below.refl _ _⟩
 case round =>
   obtain ⟨j, hj, rfl, hno, hb⟩ := hrel
   have HB := Lib.hid hb
   have HNO := Lib.hid hno
   clear hb hno
   by_cases hlt : j < l.length
   · have hmem := List.getElem_mem hlt
     obtain ⟨b, off, rfl, hbb, hc1, hc2⟩ := HS.out.get hlt
     have hr1 : wr.cell? ⟨b, off + j * 2, none⟩ = some (.string ⟨l[j].1.toArray⟩) := ((HB.out.mono hB).cell (p := ⟨b, off + j * 2, none⟩) hbb).trans hc1
     have hr2 : wr.cell? ⟨b, off + j * 2 + 1, none⟩ = some (.string ⟨l[j].2.toArray⟩) := ((HB.out.mono hB).cell (p := ⟨b, off + j * 2 + 1, none⟩) hbb).trans hc2
     clear hc1 hc2
     have HC := Lib.hid (HF.out wr l[j] hmem HB.out)
     have HN := Lib.hid (fun (hp : p l[j] = false) => show ∀ x ∈ l.take (j + 1), p x = false by
       intro x hx
       rw [List.take_succ_eq_append_getElem hlt] at hx
       rcases List.mem_append.1 hx with hx | hx
       · exact HNO.out x hx
       · obtain rfl := List.mem_singleton.1 hx; exact hp)
     have HY := Lib.hid (fun (hp : p l[j] = true) => fidx_at (p := p) hlt HNO.out hp)
     clear hmem
     generalize l[j] = x at HC HN HY hr1 hr2
     cases hp : p x with
     | true =>
       rw [hp] at HC
       have HR := Lib.hid (HY.out hp)
       clear hp
       go_wp2_with fail
       refine HC.out.mono ?_
       rintro e w2 ⟨rfl, hb2⟩
       have HB2 := Lib.hid (HB.out.trans (hb2.mono HB.out.size))
       clear hb2
       go_wp2_with fail
       go_ret
       exact ⟨by rw [HR.out]; rfl, HB2.out⟩
     | false =>
       rw [hp] at HC
       have HR := Lib.hid (HN.out hp)
       clear hp
       go_wp2_with fail
       refine HC.out.mono ?_
       rintro e w2 ⟨rfl, hb2⟩
       have HB2 := Lib.hid (HB.out.trans (hb2.mono HB.out.size))
       clear hb2
       go_wp2_with fail
       go_roundw
       case rel => exact ⟨j + 1, by omega, by go_num, HR.out, HB2.out⟩
       case measure => simp [intOf]; omega
   · have HR := Lib.hid (show fidx p l = -1 by
       have := HNO.out
       rw [List.take_of_length_le (by omega)] at this
       exact fidx_none this)
     go_wp2_with fail
     go_ret
     exact ⟨by rw [HR.out]; rfl, HB.out⟩
end

section
open Go.RowKit Go.Sort

/-- The number of pairs ahead of the first one whose key is not smaller. -/
def posL (k : By) (l : List Pr) : Nat := l.findIdx (fun p => !Op.bytesLess p.1 k)
def hasL (k : By) (l : List Pr) : Bool := match l[posL k l]? with
 | some q => q.1 == k
 | none => false
theorem posL_le (k : By) (l : List Pr) : posL k l ≤ l.length := List.findIdx_le_length
theorem fidx_pos (k : By) (l : List Pr) : (fidx (fun p => !Op.bytesLess p.1 k) l = -1 ∧ posL k l = l.length) ∨ (fidx (fun p => !Op.bytesLess p.1 k) l = (posL k l : Int) ∧ posL k l < l.length) := by
 unfold fidx posL
 cases hq : l.findIdx? (fun p => !Op.bytesLess p.1 k) with
 | none =>
   left
   rw [List.findIdx?_eq_none_iff] at hq
   exact ⟨rfl, List.findIdx_eq_length_of_false hq⟩
 | some j =>
   right
   rw [List.findIdx?_eq_some_iff_findIdx_eq] at hq
   exact ⟨by simp [hq.2], by rw [hq.2]; exact hq.1⟩
set_option maxRecDepth 100000 in
set_option maxHeartbeats 4000000 in
theorem find1_any (k : By) (x : Pr) (g : Nat) (w : World) (hg : w.cell? ⟨g, 0, none⟩ = some (.string ⟨k.toArray⟩)) :
   Calls Tryz.prog 165 #[.agg #[.string ⟨x.1.toArray⟩, .string ⟨x.2.toArray⟩], .pointer (some ⟨g, 0, none⟩)] w fun e w' => e = .returned (.bool (!Op.bytesLess x.1 k)) ∧ Below w.heap.size w w' := by
 have HB := Lib.hid (box_below0 w #[.string ⟨x.1.toArray⟩, .string ⟨x.2.toArray⟩] 46)
 have hg2 := (HB.out.cell (p := ⟨g, 0, none⟩) (block_lt_of_cell hg)).trans hg
 go_enter Tryz.func165, Tryz.ntmps165
 go_wp2_with fail
 go_ret
 exact ⟨rfl, HB.out⟩

set_option maxRecDepth 100000 in
set_option maxHeartbeats 4000000 in
theorem find_any (k : By) (w : World) (B : Nat) (a : Option Addr) (cap : Nat) (l : List Pr) (h : Prs w B a l) (hB : B ≤ w.heap.size) (hl : l.length ≤ 1000000) (_hc : l.length ≤ cap) :
   Calls Tryz.prog 117 #[.slice a l.length cap, .string ⟨k.toArray⟩] w fun e w' => e = .returned (.tuple #[.int .i64 (posL k l : Int), .bool (hasL k l)]) ∧ Below w.heap.size w w' := by
 have hb0 := box_below0 w #[.string ⟨k.toArray⟩] 9
 have hz0 := heap_alloc_new w (.cells #[.string ⟨k.toArray⟩] 9)
 have HB0 := Lib.hid hb0
 have HI := Lib.hid (idxfind_any (w.alloc (.cells #[.string ⟨k.toArray⟩] 9)) B a cap l ⟨w.heap.size, 0, none⟩ (fun p => !Op.bytesLess p.1 k) (h.below (hb0.mono hB)) (Nat.le_trans hB hb0.size) hl
   (fun W x _ hW => find1_any k x w.heap.size W (cell_at (i := 0) (heap_below hW (lt_of_block hz0) hz0) rfl)))
 have HZ := Lib.hid hz0
 have HS := Lib.hid h
 clear hb0 hz0 h
 obtain ⟨w0, hw0⟩ : ∃ w0, w0 = w.alloc (.cells #[.string ⟨k.toArray⟩] 9) := ⟨_, rfl⟩
 rw [← hw0] at HB0 HI HZ
 have HW0 := Lib.hid hw0
 clear hw0
 rcases fidx_pos k l with ⟨h1, h2⟩ | ⟨h1, h2⟩
 · rw [h1] at HI
   have HR := Lib.hid (show (.returned (.tuple #[.int .i64 (posL k l : Int), .bool (hasL k l)]) : Ending) = .returned (.tuple #[.int .i64 (l.length : Int), .bool false]) by
     have : hasL k l = false := by unfold hasL; rw [List.getElem?_eq_none (by omega)]
     rw [this, h2])
   clear h1 h2
   go_enter Tryz.func117, Tryz.ntmps117
   go_upto_region 1 with fail
   rw [← HW0.out]
   go_wp2_with fail
   refine HI.out.mono ?_
   rintro e w2 ⟨rfl, hb2⟩
   have HB2 := Lib.hid (HB0.out.trans (hb2.mono HB0.out.size))
   clear hb2
   go_wp2_with fail
   go_ret2
   exact ⟨HR.out.symm, HB2.out⟩
 · rw [h1] at HI
   obtain ⟨b, off, rfl, hbb, hc1, hc2⟩ := HS.out.get h2
   have HCE := Lib.hid hc1
   have HR := Lib.hid (show hasL k l = (l[posL k l].1 == k) by
     unfold hasL; rw [List.getElem?_eq_getElem h2])
   clear h1 hc1 hc2
   generalize l[posL k l] = q at HCE HR
   obtain ⟨j, hj⟩ : ∃ j, j = posL k l := ⟨_, rfl⟩
   rw [← hj] at h2 HI HCE
   have HJ := Lib.hid hj
   clear hj
   go_enter Tryz.func117, Tryz.ntmps117
   go_upto_region 1 with fail
   rw [← HW0.out]
   go_wp2_with fail
   refine HI.out.mono ?_
   rintro e w2 ⟨rfl, hb2⟩
   have HB2 := Lib.hid (HB0.out.trans (hb2.mono HB0.out.size))
   have hz2 := heap_below hb2 (lt_of_block HZ.out) HZ.out
   have cz : w2.cell? ⟨w.heap.size, 0, none⟩ = some (.string ⟨k.toArray⟩) := cell_at (i := 0) hz2 rfl
   have cq : w2.cell? ⟨b, off + j * 2, none⟩ = some (.string ⟨q.1.toArray⟩) := ((HB2.out.mono hB).cell (p := ⟨b, off + j * 2, none⟩) hbb).trans HCE.out
   clear hb2 hz2
   go_upto_region 4 with fail
   go_quiet (fail)
   go_wp2_with fail
   go_ret2
   exact ⟨by rw [HR.out, ← HJ.out]; rfl, below_drewN HB2.out _⟩

end

section
open Go.RowKit Go.Sort

def encP (x : Pr) : List Value := [.string ⟨x.1.toArray⟩, .string ⟨x.2.toArray⟩]
/-- Pairs, cell by cell. -/
def prsF : List Pr → List Value
 | [] => []
 | x :: l => .string ⟨x.1.toArray⟩ :: .string ⟨x.2.toArray⟩ :: prsF l
theorem prsF_len : ∀ l : List Pr, (prsF l).length = l.length * 2
 | [] => rfl
 | x :: l => by simp [prsF, prsF_len l]; omega
theorem prsF_append : ∀ l m : List Pr, prsF (l ++ m) = prsF l ++ prsF m
 | [], _ => rfl
 | x :: l, m => by simp [prsF, prsF_append l m]
theorem prsF_take : ∀ (l : List Pr) (i : Nat), prsF (l.take i) = (prsF l).take (i * 2)
 | [], i => by simp [prsF]
 | x :: l, 0 => by simp [prsF]
 | x :: l, i + 1 => by rw [List.take_succ_cons, prsF, prsF, prsF_take l i, show (i + 1) * 2 = i * 2 + 1 + 1 by omega]; rfl
theorem prsF_drop : ∀ (l : List Pr) (i : Nat), prsF (l.drop i) = (prsF l).drop (i * 2)
 | [], i => by simp [prsF]
 | x :: l, 0 => by simp [prsF]
 | x :: l, i + 1 => by rw [List.drop_succ_cons, prsF, prsF_drop l i, show (i + 1) * 2 = i * 2 + 1 + 1 by omega]; rfl
theorem one_prs : ∀ l : List Pr, ∀ u ∈ prsF l, u.oneCell' = true
 | [], u, h => by cases h
 | x :: l, u, h => by
   rcases List.mem_cons.1 h with rfl | h
   · rfl
   · rcases List.mem_cons.1 h with rfl | h
     · rfl
     · exact one_prs l u h
theorem prsF_get : ∀ (l : List Pr) (i : Nat) (h : i < l.length), (prsF l)[i * 2]? = some (.string ⟨l[i].1.toArray⟩) ∧ (prsF l)[i * 2 + 1]? = some (.string ⟨l[i].2.toArray⟩)
 | [], i, h => by simp at h
 | x :: l, 0, _ => ⟨rfl, rfl⟩
 | x :: l, i + 1, h => by
   have ih := prsF_get l i (by simpa using h)
   rw [show (i + 1) * 2 = i * 2 + 1 + 1 by omega, prsF]
   simpa using ih
theorem infoPr : (Tryz.prog.info? 46).map (fun i => (i.zero, i.size, i.bytes)) = some (some (.agg #[.string ⟨#[]⟩, .string ⟨#[]⟩]), 2, 32) := by kernel_rfl
theorem sizePr : (Tryz.prog.info? 46).map (·.size) = some 2 := by kernel_rfl
/-- A row of pairs that a call owns. -/
def PrRow (w : World) (base : Nat) (v : Value) (l : List Pr) : Prop := w.ownsRow base 46 2 v l.length (prsF l)
theorem prs_of_cells {w : World} {g : Nat} {l : List Pr} {cur : Array Value} {e : TypeId} (hblk : w.heap[g]? = some (.cells cur e (0, 0))) (q4 : cur.toList.take (l.length * 2) = prsF l) : Prs w w.heap.size (some ⟨g, 0, none⟩) l := by
 refine ⟨fun _ => ⟨g, 0, rfl, lt_of_block hblk, fun i hi => ?_⟩⟩
 have e1 := prsF_get l i hi
 rw [← q4, List.getElem?_take, if_pos (by omega), List.getElem?_take, if_pos (by omega)] at e1
 rw [Nat.zero_add, cell_of_row w g _ cur e (0, 0) hblk, cell_of_row w g _ cur e (0, 0) hblk]
 simpa using e1
theorem prs_of_row {w : World} {base : Nat} {v : Value} {l : List Pr} (h : PrRow w base v l) : ∃ a cap, v = .slice a l.length cap ∧ l.length ≤ cap ∧ cap ≤ maxLen ∧ Prs w w.heap.size a l := by
 rcases h.2 with ⟨rfl, hn⟩ | ⟨g, cap, cur, rfl, hbase, hblk, q1, q2, q3, q4⟩
 · have : l = [] := List.length_eq_zero_iff.1 (by simpa using hn)
   subst this; exact ⟨none, 0, rfl, Nat.le_refl _, by simp, prs_nil _ _ _⟩
 · exact ⟨_, cap, rfl, q1, q2, prs_of_cells hblk q4⟩
theorem prs_news {w : World} {B : Nat} {p : Addr} {l : List Pr} (h : Prs w B (some p) l) : ∀ (j : Nat) (u : Value), (prsF l)[j]? = some u → w.cell? (p.add j) = some u := by
 intro j u hu
 have hj : j < l.length * 2 := by have := (List.getElem?_eq_some_iff.1 hu).1; rw [prsF_len] at this; exact this
 have hi : j / 2 < l.length := by omega
 obtain ⟨b, off, hp, hbb, hx, hy⟩ := h.get hi
 obtain rfl : p = ⟨b, off, none⟩ := Option.some.inj hp
 have hg := prsF_get l (j / 2) hi
 rw [add_plain]
 rcases (show j % 2 = 0 ∨ j % 2 = 1 by omega) with h0 | h0
 · have e : j = j / 2 * 2 := by omega
   rw [e] at hu ⊢
   rw [hg.1] at hu
   rw [hx]; exact hu
 · have e : j = j / 2 * 2 + 1 := by omega
   rw [e] at hu ⊢
   rw [hg.2] at hu
   rw [← Nat.add_assoc, hy]; exact hu
theorem below_news {w w' : World} {B : Nat} {p : Addr} {l : List Pr} (h : Prs w B (some p) l) (hb : Below B w w') : ∀ (j : Nat) (u : Value), (prsF l)[j]? = some u → w'.cell? (p.add j) = some u := prs_news (h.below hb)

set_option maxRecDepth 100000 in
set_option maxHeartbeats 4000000 in
theorem clone_any (w : World) (B : Nat) (a : Option Addr) (cap : Nat) (l : List Pr) (h : Prs w B a l) (hB : B ≤ w.heap.size) (hl : l.length ≤ 1000000) :
   Calls Tryz.prog 32 #[.slice a l.length cap] w fun e w' => ∃ v, e = .returned v ∧ PrRow w' w.heap.size v l ∧ Below w.heap.size w w' := by
 obtain ⟨i0, hi0, hz0, hz1, hz2⟩ := info_parts infoPr
 cases a with
 | none =>
   have hln : l = [] := by
     rcases l with _ | ⟨x, l⟩
     · rfl
     · obtain ⟨b, off, hn, _⟩ := h.cells (by simp)
       cases hn
   subst hln
   have hq : ∀ W : World, (binOp .eql 24 (.slice none 0 cap) (.slice none 0 0)).run Tryz.prog W = .ok (.bool true) W := fun _ => by kernel_rfl
   clear h
   go_enter Tryz.func32, Tryz.ntmps32
   go_wp2_with fail
   go_ret
   exact ⟨_, rfl, own_nil _ _ _ _, Below.refl _ _⟩
 | some p =>
   have hown : (w.alloc (.cells #[] 46)).ownsRow w.heap.size 46 2 (.slice (some ⟨w.heap.size, 0, none⟩) 0 0) 0 [] := World.ownsRow_lit w #[] 0 (Nat.le_refl _) (by simp [maxLen]) rfl
   have HNW := Lib.hid (below_news h ((box_below w #[] 46).mono hB))
   have hq : ∀ W : World, (binOp .eql 24 (.slice (some p) l.length cap) (.slice none 0 0)).run Tryz.prog W = .ok (.bool false) W := fun _ => by kernel_rfl
   clear h
   go_enter Tryz.func32, Tryz.ntmps32
   go_wp2_with (refine wpList_append_own _ rfl _ _ 24 rfl w.heap.size 46 i0 (.agg #[.string ⟨#[]⟩, .string ⟨#[]⟩]) 2 32 Tryz.underlying24 hi0 hz0 hz1 hz2 rfl (by decide) _ _ _ rfl hown _ l.length _ (prsF l) rfl (prsF_len l) HNW.out (one_prs l) ?b3 ?b4 ?b5 ?_)
   try (case b3 => unfold maxLen; omega)
   try (case b4 => omega)
   try (case b5 => simp)
   intro v6 w6 ho6 hg6 _
   have HB6 := Lib.hid ((box_below w #[] 46).grown hg6 (by simp) (fun k hk => row_own hown hk))
   have HO7 := Lib.hid (show PrRow w6 w.heap.size v6 l by
     unfold PrRow
     simpa using ho6)
   clear ho6 hg6 hown
   go_wp2_with fail
   go_ret
   exact ⟨v6, rfl, HO7.out, HB6.out⟩
end

end Go.Proofs.YtckpepfkfjdnhaaGreatDoor

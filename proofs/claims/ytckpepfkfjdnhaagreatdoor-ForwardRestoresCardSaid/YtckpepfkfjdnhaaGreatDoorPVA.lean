/-
  Records of the log in memory; whether they are few. Condition: they lie in memory.
  Walks: a text ahead of which its length stands, by both; the last number of a record. Conditions: not too long.
  Walk: a record's encoding, by the program. Conditions: it lies in memory; its numbers are not negative; its texts are short.
  Walk: a record's encoding, by the reference. Conditions: it lies in memory; its numbers are not negative; its texts are short.
  Walks: whether a record is sound, by both. Conditions: it lies in memory; its texts are short.
-/
import Derived.Test.YtckpepfkfjdnhaaGreatDoorPZ
import Derived.Test.YtckpepfkfjdnhaaGreatDoorPD
import Derived.Test.YtckpepfkfjdnhaaGreatDoorPU
import Derived.Test.YtckpepfkfjdnhaaGreatDoorPJ21
import Derived.Test.YtckpepfkfjdnhaaGreatDoorPN
import Derived.BigQuiet
namespace Go.Proofs.YtckpepfkfjdnhaaGreatDoor

section
open Go.RowKit Go.Sort

/-- A record of the log, with where its changes lie. -/
structure Lr where
 num : Int
 unit : Int
 a : Option Addr
 cap : Nat
 l : List Ch
instance : Inhabited Lr := ⟨⟨0, 0, none, 0, []⟩⟩
abbrev Lr.cs (x : Lr) : Array Value := lrC x.num x.unit x.a x.l.length x.cap
def loadLr (p : Addr) : Sem Value := loadVar 35 p
theorem loadLr_down (p : Addr) : loadVar 35 p = loadLr p := rfl
def storeLr (p : Addr) (v : Value) : Sem Unit := storeVar 35 p v
theorem storeLr_down (p : Addr) (v : Value) : storeVar 35 p v = storeLr p v := rfl
/-- A record's cells lie at a place. -/
def LrAt (w : World) (b o : Nat) (x : Lr) : Prop := ∀ (j : Nat) (v : Value), x.cs.toList[j]? = some v → w.cell? ⟨b, o + j, none⟩ = some v
theorem LrAt.below {w w' : World} {b o B : Nat} {x : Lr} (h : LrAt w b o x) (hb : Below B w w') (hB : b < B) : LrAt w' b o x :=
 fun j v hj => (hb.cell (p := ⟨b, o + j, none⟩) hB).trans (h j v hj)
/-- Records in memory, below block B. -/
structure Recs (w : World) (B : Nat) (a : Option Addr) (l : List Lr) : Prop where
 cells : l ≠ [] → ∃ b off, a = some ⟨b, off, none⟩ ∧ b < B ∧ ∀ i (h : i < l.length), LrAt w b (off + i * 3) l[i]
 chs : ∀ x ∈ l, Chs w B x.a x.l ∧ x.l.length ≤ x.cap ∧ x.cap ≤ maxLen
theorem Recs.below {w w' : World} {B a l} (h : Recs w B a l) (hb : Below B w w') : Recs w' B a l :=
 ⟨fun hl => by
   obtain ⟨b, off, h1, h2, h3⟩ := h.cells hl
   exact ⟨b, off, h1, h2, fun i hi => (h3 i hi).below hb h2⟩, fun x hx => ⟨(h.chs x hx).1.below hb, (h.chs x hx).2⟩⟩
theorem Recs.mono {w : World} {B B' a l} (h : Recs w B a l) (hB : B ≤ B') : Recs w B' a l :=
 ⟨fun hl => by obtain ⟨b, off, h1, h2, h3⟩ := h.cells hl; exact ⟨b, off, h1, by omega, h3⟩, fun x hx => ⟨(h.chs x hx).1.mono hB, (h.chs x hx).2⟩⟩
theorem Recs.get {w : World} {B a l} (h : Recs w B a l) {i : Nat} (hi : i < l.length) : ∃ b off, a = some ⟨b, off, none⟩ ∧ b < B ∧ LrAt w b (off + i * 3) l[i] := by
 obtain ⟨b, off, h1, h2, h3⟩ := h.cells (fun e => by rw [e] at hi; simp at hi)
 exact ⟨b, off, h1, h2, h3 i hi⟩
section
attribute [local go_sem ↓] loadLr_down storeLr_down
end
end

section
open Go.RowKit Go.Sort

def textB (s : By) : By := num s.length ++ s
theorem textB_len (s : By) : (textB s).length ≤ s.length + 10 := by
 unfold textB; have := num_length s.length; rw [List.length_append]; omega
section
attribute [local go_sem] ByteArray.mk_append_mk
set_option maxRecDepth 100000 in
set_option maxHeartbeats 1000000 in
theorem append_text_any (s t : By) (w : World) (hs : s.length ≤ 1000000) (h : t.length ≤ 1000000) : Calls Tryz.prog 148 #[.string ⟨s.toArray⟩, .string ⟨t.toArray⟩] w fun e w' => e = .returned (.string ⟨(s ++ textB t).toArray⟩) ∧ Below w.heap.size w w' := by
 have HN := Lib.hid (append_number_any s t.length w hs (by omega))
 have HQ := Lib.hid (show s ++ textB t = s ++ num t.length ++ t by unfold textB; rw [List.append_assoc])
 have l1 : (s ++ num t.length).length ≤ 1000010 := by have := num_length t.length; rw [List.length_append]; omega
 generalize s ++ num t.length = q at HN HQ l1
 generalize s ++ textB t = r at HQ ⊢
 have hcv : IntKind.u64.wrap (t.length : Int) = (t.length : Int) := by rw [IntKind.wrap_u64]; omega
 go_enter Tryz.func148, Tryz.ntmps148
 go_wp2_with fail
 refine HN.out.mono ?_
 rintro e w1 ⟨rfl, hb1⟩
 have HB := Lib.hid hb1
 clear hb1
 go_wp2_with fail
 go_ret
 exact ⟨by rw [HQ.out]; simp, HB.out⟩
end
end

section
open Go.RowKit Go.Sort

section
attribute [local go_sem ↓] loadCh_down storeCh_down loadLr_down storeLr_down
end
end

section
open Go.RowKit Go.Sort

section
attribute [local go_sem] ByteArray.mk_append_mk
attribute [local go_sem ↓] loadCh_down storeCh_down loadLr_down storeLr_down
end
end

section
open Go.RowKit Go.Sort

section
attribute [local go_sem ↓] loadCh_down storeCh_down loadLr_down storeLr_down
end
end

end Go.Proofs.YtckpepfkfjdnhaaGreatDoor

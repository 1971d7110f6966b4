/-
  Small words for walks: what a call may change, and endings. No condition.
  Plain mathematics of chapter 13: blocks of records and the sectors of a sequential data set, as the program and as the reference make them. No walk.
-/
import Derived.Test.YtckpepfkfjdnhaaGreatDoorRows
import Derived.WalkKit
import Derived.WalkSpells
import Derived.WalkLawsBesides
import Derived.Lib.Hide
import Derived.Lib.QuietBelow
import Derived.Deep.QuietTactic
import Derived.BigQuiet
import Derived.RegionTactic
import Derived.ChangeAlike
import Derived.OneCell
import Derived.Lib.ConvBytes
import Derived.Laws.BytesArg
import Derived.IntWalk
import Derived.Laws.MakeOwn
import Derived.Laws.OwnMore
import Derived.Deep.RegionWith
import Derived.Deep.RegionHeld3
import Derived.Deep.AppendLies
import Derived.Deep.Draws
import Derived.Maps.AppendAt
import Derived.OwnWalk
import Derived.Laws.ResultCell
import Derived.Deep.RegionLaw
import Derived.Deep.DeepCutAuto
import Derived.Laws.AppendOwnNone
import Derived.Great.BuildSlice
namespace Go.Proofs.YtckpepfkfjdnhaaGreatDoor

section
open Go.RowKit Go.Sort

theorem ret_int {k : IntKind} {a b : Int} (h : a = b) : Ending.returned (.int k a) = .returned (.int k b) := by rw [h]
theorem ret_str {a b : ByteArray} (h : a = b) : Ending.returned (.string a) = .returned (.string b) := by rw [h]
theorem ret_bool {a b : Bool} (h : a = b) : Ending.returned (.bool a) = .returned (.bool b) := by rw [h]

theorem below_drewN {n : Nat} {a w : World} (h : Below n a w) (k : Nat) : Below n a (w.drewN k) := ⟨h.os, h.tape, h.output, h.size, h.block⟩
theorem below_setRow {n : Nat} {a w : World} (h : Below n a w) {g : Nat} (hg : n ≤ g) (cs : Array Value) : Below n a (w.setRow g cs) :=
 h.trans ⟨rfl, rfl, rfl, by simp, fun k hk => setRow_other _ _ _ _ (by omega)⟩
theorem heap_below {n : Nat} {a w : World} (h : Below n a w) {k : Nat} {o : Obj} (hk : k < n) (ho : a.heap[k]? = some o) : w.heap[k]? = some o := (h.block k hk).trans ho

/-- Of the blocks that were there only those in S have turned. -/
structure Only (S : List Nat) (w w' : World) : Prop where
 os : w'.os = w.os
 tape : w'.tape = w.tape
 output : w'.output = w.output
 size : w.heap.size ≤ w'.heap.size
 block : ∀ k, k < w.heap.size → k ∉ S → w'.heap[k]? = w.heap[k]?
theorem Only.refl (S : List Nat) (w : World) : Only S w w := ⟨rfl, rfl, rfl, Nat.le_refl _, fun _ _ _ => rfl⟩
theorem Only.trans {S : List Nat} {a b c : World} (h : Only S a b) (k : Only S b c) : Only S a c :=
 ⟨k.os.trans h.os, k.tape.trans h.tape, k.output.trans h.output, Nat.le_trans h.size k.size, fun i hi hn => (k.block i (Nat.lt_of_lt_of_le hi h.size) hn).trans (h.block i hi hn)⟩
theorem Only.mono {S T : List Nat} {w w' : World} (h : Only S w w') (hs : ∀ k, k ∈ S → k < w.heap.size → k ∈ T) : Only T w w' :=
 ⟨h.os, h.tape, h.output, h.size, fun k hk hn => h.block k hk fun hm => hn (hs k hm hk)⟩
/-- Behind a step that may have turned blocks which the caller has laid itself. -/
theorem Only.then {S T : List Nat} {a b c : World} (h : Only S a b) (k : Only T b c) (hT : ∀ i, i ∈ T → i ∈ S ∨ a.heap.size ≤ i) : Only S a c :=
 ⟨k.os.trans h.os, k.tape.trans h.tape, k.output.trans h.output, Nat.le_trans h.size k.size, fun i hi hn =>
   (k.block i (Nat.lt_of_lt_of_le hi h.size) (fun hm => (hT i hm).elim hn (fun h1 => by omega))).trans (h.block i hi hn)⟩
theorem Only.of_below {S : List Nat} {w w' : World} (h : Below w.heap.size w w') : Only S w w' := ⟨h.os, h.tape, h.output, h.size, fun k hk _ => h.block k hk⟩
theorem Only.below {S : List Nat} {w w' : World} {B : Nat} (h : Only S w w') (hB : B ≤ w.heap.size) (hs : ∀ k, k ∈ S → B ≤ k) : Below B w w' :=
 ⟨h.os, h.tape, h.output, h.size, fun k hk => h.block k (by omega) fun hm => by have := hs k hm; omega⟩
theorem Only.step_below {S : List Nat} {a b c : World} (h : Only S a b) (k : Below b.heap.size b c) : Only S a c := h.trans (Only.of_below k)
theorem Only.drew {S : List Nat} {a w : World} (h : Only S a w) : Only S a w.drew := ⟨h.os, h.tape, h.output, h.size, h.block⟩
theorem Only.drewN {S : List Nat} {a w : World} (h : Only S a w) (n : Nat) : Only S a (w.drewN n) := ⟨h.os, h.tape, h.output, h.size, h.block⟩
theorem Only.alloc {S : List Nat} {a w : World} (h : Only S a w) (o : Obj) : Only S a (w.alloc o) :=
 h.trans (Only.of_below ((Below.refl _ _).alloc (Nat.le_refl _) o))
theorem Only.setCell {S : List Nat} {a w : World} (h : Only S a w) {p : Addr} (hp : p.block ∈ S ∨ a.heap.size ≤ p.block) (v : Value) : Only S a (w.setCell p v) :=
 h.then (T := [p.block]) ⟨rfl, rfl, rfl, by simp [World.setCell], fun k _ hn => Below.heap_setCell _ _ _ _ (by simpa using hn)⟩ (fun i hi => by simp at hi; subst hi; exact hp)
theorem Only.setRow {S : List Nat} {a w : World} (h : Only S a w) {g : Nat} (hp : g ∈ S ∨ a.heap.size ≤ g) (cs : Array Value) : Only S a (w.setRow g cs) :=
 h.then (T := [g]) ⟨rfl, rfl, rfl, by simp, fun k _ hn => setRow_other _ _ _ _ (by simpa using hn)⟩ (fun i hi => by simp at hi; subst hi; exact hp)
theorem Only.grown {S : List Nat} {a w w' : World} (h : Only S a w) {row : Option Nat} (hg : w.grownBy w' row) (hr : ∀ k, row = some k → k ∈ S ∨ a.heap.size ≤ k) : Only S a w' :=
 h.then (T := row.toList) ⟨hg.os, hg.tape, hg.output, hg.size, fun k hk hn => hg.block k hk (fun e => hn (by rw [← e]; simp))⟩ (fun i hi => hr i (by simpa using hi))
theorem Only.heap {S : List Nat} {w w' : World} (h : Only S w w') {k : Nat} {o : Obj} (ho : w.heap[k]? = some o) (hk : k ∉ S) : w'.heap[k]? = some o :=
 (h.block k (lt_of_block ho) hk).trans ho
theorem halloc (w : World) (o : Obj) {i : Nat} (h : i < w.heap.size) : (w.alloc o).heap[i]? = w.heap[i]? := by
 show (w.heap.push o)[i]? = w.heap[i]?
 rw [Array.getElem?_push, if_neg (Nat.ne_of_lt h)]
theorem cell_row_any (w : World) (g i : Nat) (cs : Array Value) (t : TypeId) (fr : Nat × Nat) (v : Value) (hg : w.heap[g]? = some (.cells cs t fr)) :
   (w.setCell ⟨g, i, none⟩ v).heap[g]? = some (.cells (cs.setIfInBounds i v) t fr) := by
 rw [setCell_eq_setRow w g i cs t fr v hg]
 exact setRow_heap w g cs _ t fr hg
theorem cell_at {w : World} {g i : Nat} {cs : Array Value} {t : TypeId} {fr : Nat × Nat} {v : Value} (hg : w.heap[g]? = some (.cells cs t fr)) (h : cs[i]? = some v) : w.cell? ⟨g, i, none⟩ = some v := by
 rw [cell_of_row w g i cs t fr hg]; exact h
theorem free_at {w : World} {g : Nat} {cs : Array Value} {t : TypeId} (hg : w.heap[g]? = some (.cells cs t (0, 0))) (i : Nat) : w.frozen? ⟨g, i, none⟩ = false := frozen_of_row w g i cs t hg
end

section
abbrev By := List UInt8
def b8 (n : Nat) : UInt8 := UInt8.ofNat n

/-- The number of 7 bits a byte. -/
def numF : Nat → Nat → By
 | 0, _ => []
 | f + 1, n => if n < 128 then [b8 n] else b8 (n % 128 + 128) :: numF f (n / 128)
def num (n : Nat) : By := numF 10 n
theorem numF_length : ∀ f n, (numF f n).length ≤ f
 | 0, _ => by simp [numF]
 | f + 1, n => by
   unfold numF; split
   · simp
   · have := numF_length f (n / 128); simp; omega
theorem num_length (n : Nat) : (num n).length ≤ 10 := numF_length 10 n

def word (n : Nat) : By := [b8 (n / 256), b8 (n % 256), 0, 0]
theorem word_length (n : Nat) : (word n).length = 4 := rfl
def form (r : By) : By := word (4 + r.length) ++ r
theorem form_length (r : By) : (form r).length = 4 + r.length := by simp [form, word_length]
def whole (s : By) : By := word (4 + s.length) ++ s
theorem whole_length (s : By) : (whole s).length = 4 + s.length := by simp [whole, word_length]

/-! ### Records of the same length -/

/-- As the program packs them: as many as fit, joined, again and again. -/
def fixA (most : Nat) : Nat → List By → List By
 | 0, _ => []
 | f + 1, l => if l = [] then [] else (l.take most).flatten :: fixA most f (l.drop most)
/-- The program: blocks so far, and the forms of the last one. -/
def varStepA (block : Nat) (s : List By × By) (r : By) : List By × By :=
 if s.2 ≠ [] ∧ block < 4 + s.2.length + (form r).length then (s.1 ++ [whole s.2], form r) else (s.1, s.2 ++ form r)
def varA (block : Nat) (l : List By) : List By :=
 let s := l.foldl (varStepA block) ([], [])
 if s.2 ≠ [] then s.1 ++ [whole s.2] else s.1
theorem form_ne (r : By) : form r ≠ [] := by intro h; have := form_length r; rw [h, List.length_nil] at this; omega
def code (b a : Bool) : UInt8 := if b then (if a then 3 else 2) else (if a then 1 else 0)
def segF (b a : Bool) (d : By) : By := [b8 ((d.length + 4) / 256), b8 ((d.length + 4) % 256), code b a, 0] ++ d
theorem segF_length (b a : Bool) (d : By) : (segF b a d).length = 4 + d.length := by simp [segF]; omega

/-- The program: the parts of a record behind the first one, each a block. -/
def restA (block : Nat) : Nat → Bool → By → List By
 | 0, _, _ => []
 | f + 1, begun, r => whole (segF begun (decide (min (block - 8) r.length < r.length)) (r.take (block - 8))) :: (if min (block - 8) r.length = r.length then [] else restA block f true (r.drop (block - 8)))
/-- The program: what becomes of the last block ([] if it stays), and the new ones. -/
def addA (block : Nat) (last r : By) : By × List By :=
 if last ≠ [] ∧ last.length + 4 ≤ block ∧ (r.length ≤ block - last.length - 4 ∨ 1 ≤ block - last.length - 4) then
   (whole (last.drop 4 ++ segF false (decide (min (block - last.length - 4) r.length < r.length)) (r.take (block - last.length - 4))),
     if min (block - last.length - 4) r.length = r.length then [] else restA block (r.length + 1) true (r.drop (block - last.length - 4)))
 else ([], restA block (r.length + 1) false r)
def spanStepA (block : Nat) (out : List By) (r : By) : List By :=
 let x := addA block (out.getLastD []) r
 (if x.1 ≠ [] then out.dropLast ++ [x.1] else out) ++ x.2
def spanA (block : Nat) (l : List By) : List By := l.foldl (spanStepA block) []

/-- The reference: a further segment. -/
def addB (blk : By) (b a : Bool) (d : By) : By := whole ((if blk ≠ [] then blk.drop 4 else []) ++ segF b a d)
/-- The reference: blocks from the last one on. -/
def putB (size : Nat) : Nat → Bool → By → By → List By
 | 0, _, blk, _ => [blk]
 | f + 1, before, blk, r =>
   let room := size - max 4 blk.length - 4
   if max 4 blk.length + 4 ≤ size ∧ r.length ≤ room then [addB blk before false r]
   else if max 4 blk.length + 4 ≤ size ∧ 1 ≤ room then addB blk before true (r.take room) :: putB size f true [] (r.drop room)
   else blk :: putB size f before [] r
theorem restA_big (block : Nat) : ∀ (f : Nat) (b : Bool) (r : By), ∀ x ∈ restA block f b r, 4 ≤ x.length
 | 0, _, _, x, h => by simp [restA] at h
 | f + 1, b, r, x, h => by
   unfold restA at h
   rcases List.mem_cons.1 h with h | h
   · subst h; rw [whole_length]; omega
   · split at h
     · simp at h
     · exact restA_big block f true _ x h
theorem addA_big (block : Nat) (last r : By) : (∀ x ∈ (addA block last r).2, 4 ≤ x.length) ∧ ((addA block last r).1 ≠ [] → 4 ≤ (addA block last r).1.length) := by
 unfold addA
 split
 · refine ⟨fun x hx => ?_, fun _ => by rw [whole_length]; omega⟩
   split at hx
   · simp at hx
   · exact restA_big block _ _ _ x hx
 · exact ⟨fun x hx => restA_big block _ _ _ x hx, fun h => absurd rfl h⟩
theorem spanStepA_big (block : Nat) (out : List By) (r : By) (h : ∀ x ∈ out, 4 ≤ x.length) : ∀ x ∈ spanStepA block out r, 4 ≤ x.length := by
 intro x hx
 have hb := addA_big block (out.getLastD []) r
 unfold spanStepA at hx
 simp only at hx
 rcases List.mem_append.1 hx with h1 | h1
 · split at h1
   · rename_i hne
     rcases List.mem_append.1 h1 with h2 | h2
     · exact h x (List.dropLast_subset _ h2)
     · rw [List.mem_singleton] at h2; subst h2; exact hb.2 hne
   · exact h x h1
 · exact hb.1 x h1
def zeros (n : Nat) : By := List.replicate n 0
def pad (s : By) : By := s ++ zeros (128 - s.length)
def le2 (n : Nat) : By := [b8 (n % 256), b8 (n / 256)]
def streamOf (l : List By) : By := (l.map fun b => le2 b.length ++ b).flatten
/-- The program: 128 bytes, again and again. -/
def secA : Nat → By → List By
 | 0, _ => []
 | f + 1, s => if s = [] then [] else pad (s.take (min s.length 128)) :: secA f (s.drop (min s.length 128))
end

end Go.Proofs.YtckpepfkfjdnhaaGreatDoor

/-
  Small words for walks: what a call may change, and endings. No condition. Plain mathematics of chapter 13: blocks of records and the sectors of a sequential data set, as the program and as the reference make them. No walk.
-/
import Derived.Test.YtcefkngblddpoaaGreatDoorRows
import Derived.WalkKit
import Derived.WalkSpells
import Derived.WalkLawsBesides
import Derived.Lib.Hide
import Derived.Lib.QuietBelow
import Derived.Deep.QuietTactic
import Derived.BigQuiet
import Derived.RegionTactic
import Derived.ChangeAlike
import Derived.OneCell
import Derived.Lib.ConvBytes
import Derived.Laws.BytesArg
import Derived.IntWalk
import Derived.Laws.MakeOwn
import Derived.Laws.OwnMore
import Derived.Deep.RegionWith
import Derived.Deep.RegionHeld3
import Derived.Deep.AppendLies
import Derived.Deep.Draws
import Derived.Maps.AppendAt
import Derived.OwnWalk
import Derived.Laws.ResultCell
import Derived.Deep.RegionLaw
import Derived.Deep.DeepCutAuto
import Derived.Laws.AppendOwnNone
import Derived.Great.BuildSlice
namespace Go.Proofs.YtcefkngblddpoaaGreatDoor
section
open Go.RowKit Go.Sort
theorem ret_int {k : IntKind} {a b : Int} (h : a = b) : Ending.returned (.int k a) = .returned (.int k b) := by rw [h]
theorem ret_str {a b : ByteArray} (h : a = b) : Ending.returned (.string a) = .returned (.string b) := by rw [h]
theorem ret_bool {a b : Bool} (h : a = b) : Ending.returned (.bool a) = .returned (.bool b) := by rw [h]
theorem below_drewN {n : Nat} {a w : World} (h : Below n a w) (k : Nat) : Below n a (w.drewN k) := ⟨h.os, h.tape, h.output, h.size, h.block⟩
theorem below_setRow {n : Nat} {a w : World} (h : Below n a w) {g : Nat} (hg : n ≤ g) (cs : Array Value) : Below n a (w.setRow g cs) :=
 h.trans ⟨rfl, rfl, rfl, by simp, fun k hk => setRow_other _ _ _ _ (by omega)⟩
theorem heap_below {n : Nat} {a w : World} (h : Below n a w) {k : Nat} {o : Obj} (hk : k < n) (ho : a.heap[k]? = some o) : w.heap[k]? = some o := (h.block k hk).trans ho
/-- Of the blocks that were there only those in S have turned. -/
structure Only (S : List Nat) (w w' : World) : Prop where
 os : w'.os = w.os
 tape : w'.tape = w.tape
 output : w'.output = w.output
 size : w.heap.size ≤ w'.heap.size
 block : ∀ k, k < w.heap.size → k ∉ S → w'.heap[k]? = w.heap[k]?
theorem Only.refl (S : List Nat) (w : World) : Only S w w := ⟨rfl, rfl, rfl, Nat.le_refl _, fun _ _ _ => rfl⟩
theorem Only.trans {S : List Nat} {a b c : World} (h : Only S a b) (k : Only S b c) : Only S a c :=
 ⟨k.os.trans h.os, k.tape.trans h.tape, k.output.trans h.output, Nat.le_trans h.size k.size, fun i hi hn => (k.block i (Nat.lt_of_lt_of_le hi h.size) hn).trans (h.block i hi hn)⟩
theorem Only.mono {S T : List Nat} {w w' : World} (h : Only S w w') (hs : ∀ k, k ∈ S → k < w.heap.size → k ∈ T) : Only T w w' :=
 ⟨h.os, h.tape, h.output, h.size, fun k hk hn => h.block k hk fun hm => hn (hs k hm hk)⟩
/-- Behind a step that may have turned blocks which the caller has laid itself. -/
theorem Only.then {S T : List Nat} {a b c : World} (h : Only S a b) (k : Only T b c) (hT : ∀ i, i ∈ T → i ∈ S ∨ a.heap.size ≤ i) : Only S a c :=
 ⟨k.os.trans h.os, k.tape.trans h.tape, k.output.trans h.output, Nat.le_trans h.size k.size, fun i hi hn =>
   (k.block i (Nat.lt_of_lt_of_le hi h.size) (fun hm => (hT i hm).elim hn (fun h1 => by omega))).trans (h.block i hi hn)⟩
theorem Only.of_below {S : List Nat} {w w' : World} (h : Below w.heap.size w w') : Only S w w' := ⟨h.os, h.tape, h.output, h.size, fun k hk _ => h.block k hk⟩
theorem Only.below {S : List Nat} {w w' : World} {B : Nat} (h : Only S w w') (hB : B ≤ w.heap.size) (hs : ∀ k, k ∈ S → B ≤ k) : Below B w w' :=
 ⟨h.os, h.tape, h.output, h.size, fun k hk => h.block k (by omega) fun hm => by have := hs k hm; omega⟩
theorem Only.to_below {w w' : World} (h : Only [] w w') : Below w.heap.size w w' := h.below (Nat.le_refl _) (fun _ hk => by simp at hk)
theorem Only.step_below {S : List Nat} {a b c : World} (h : Only S a b) (k : Below b.heap.size b c) : Only S a c := h.trans (Only.of_below k)
theorem Only.drew {S : List Nat} {a w : World} (h : Only S a w) : Only S a w.drew := ⟨h.os, h.tape, h.output, h.size, h.block⟩
theorem Only.drewN {S : List Nat} {a w : World} (h : Only S a w) (n : Nat) : Only S a (w.drewN n) := ⟨h.os, h.tape, h.output, h.size, h.block⟩
theorem Only.alloc {S : List Nat} {a w : World} (h : Only S a w) (o : Obj) : Only S a (w.alloc o) :=
 h.trans (Only.of_below ((Below.refl _ _).alloc (Nat.le_refl _) o))
theorem Only.setCell {S : List Nat} {a w : World} (h : Only S a w) {p : Addr} (hp : p.block ∈ S ∨ a.heap.size ≤ p.block) (v : Value) : Only S a (w.setCell p v) :=
 h.then (T := [p.block]) ⟨rfl, rfl, rfl, by simp [World.setCell], fun k _ hn => Below.heap_setCell _ _ _ _ (by simpa using hn)⟩ (fun i hi => by simp at hi; subst hi; exact hp)
theorem Only.setRow {S : List Nat} {a w : World} (h : Only S a w) {g : Nat} (hp : g ∈ S ∨ a.heap.size ≤ g) (cs : Array Value) : Only S a (w.setRow g cs) :=
 h.then (T := [g]) ⟨rfl, rfl, rfl, by simp, fun k _ hn => setRow_other _ _ _ _ (by simpa using hn)⟩ (fun i hi => by simp at hi; subst hi; exact hp)
theorem Only.grown {S : List Nat} {a w w' : World} (h : Only S a w) {row : Option Nat} (hg : w.grownBy w' row) (hr : ∀ k, row = some k → k ∈ S ∨ a.heap.size ≤ k) : Only S a w' :=
 h.then (T := row.toList) ⟨hg.os, hg.tape, hg.output, hg.size, fun k hk hn => hg.block k hk (fun e => hn (by rw [← e]; simp))⟩ (fun i hi => hr i (by simpa using hi))
theorem Only.heap {S : List Nat} {w w' : World} (h : Only S w w') {k : Nat} {o : Obj} (ho : w.heap[k]? = some o) (hk : k ∉ S) : w'.heap[k]? = some o :=
 (h.block k (lt_of_block ho) hk).trans ho
/-- Two blocks that hold different things are two. -/
theorem ne_block {w : World} {a b : Nat} {o p : Obj} (ha : w.heap[a]? = some o) (hb : w.heap[b]? = some p) (h : o ≠ p) : a ≠ b := by
 intro e; subst e; rw [ha] at hb; exact h (Option.some.inj hb)
theorem halloc (w : World) (o : Obj) {i : Nat} (h : i < w.heap.size) : (w.alloc o).heap[i]? = w.heap[i]? := by
 show (w.heap.push o)[i]? = w.heap[i]?
 rw [Array.getElem?_push, if_neg (Nat.ne_of_lt h)]
theorem cell_row_any (w : World) (g i : Nat) (cs : Array Value) (t : TypeId) (fr : Nat × Nat) (v : Value) (hg : w.heap[g]? = some (.cells cs t fr)) :
 (w.setCell ⟨g, i, none⟩ v).heap[g]? = some (.cells (cs.setIfInBounds i v) t fr) := by
 rw [setCell_eq_setRow w g i cs t fr v hg]
 exact setRow_heap w g cs _ t fr hg
theorem cell_at {w : World} {g i : Nat} {cs : Array Value} {t : TypeId} {fr : Nat × Nat} {v : Value} (hg : w.heap[g]? = some (.cells cs t fr)) (h : cs[i]? = some v) : w.cell? ⟨g, i, none⟩ = some v := by
 rw [cell_of_row w g i cs t fr hg]; exact h
theorem free_at {w : World} {g : Nat} {cs : Array Value} {t : TypeId} (hg : w.heap[g]? = some (.cells cs t (0, 0))) (i : Nat) : w.frozen? ⟨g, i, none⟩ = false := frozen_of_row w g i cs t hg
end
section
abbrev By := List UInt8
def b8 (n : Nat) : UInt8 := UInt8.ofNat n
/-- The number of 7 bits a byte. -/
def numF : Nat → Nat → By
 | 0, _ => []
 | f + 1, n => if n < 128 then [b8 n] else b8 (n % 128 + 128) :: numF f (n / 128)
def num (n : Nat) : By := numF 10 n
theorem numF_length : ∀ f n, (numF f n).length ≤ f
 | 0, _ => by simp [numF]
 | f + 1, n => by
   unfold numF; split
   · simp
   · have := numF_length f (n / 128); simp; omega
theorem num_length (n : Nat) : (num n).length ≤ 10 := numF_length 10 n
def word (n : Nat) : By := [b8 (n / 256), b8 (n % 256), 0, 0]
theorem word_length (n : Nat) : (word n).length = 4 := rfl
def form (r : By) : By := word (4 + r.length) ++ r
theorem form_length (r : By) : (form r).length = 4 + r.length := by simp [form, word_length]
def whole (s : By) : By := word (4 + s.length) ++ s
theorem whole_length (s : By) : (whole s).length = 4 + s.length := by simp [whole, word_length]
/-! ### Records of the same length -/
/-- As the program packs them: as many as fit, joined, again and again. -/
def fixA (most : Nat) : Nat → List By → List By
 | 0, _ => []
 | f + 1, l => if l = [] then [] else (l.take most).flatten :: fixA most f (l.drop most)
/-- As the reference packs them: a new block at each multiple of most. -/
def putLast (out : List By) (r : By) : List By := out.dropLast ++ [out.getLastD [] ++ r]
def stepB (most : Nat) (s : Nat × List By) (r : By) : Nat × List By := (s.1 + 1, if s.1 % most = 0 then s.2 ++ [r] else putLast s.2 r)
def fixB (most : Nat) (l : List By) : List By := (l.foldl (stepB most) (0, [])).2
theorem putLast_snoc (out : List By) (a r : By) : putLast (out ++ [a]) r = out ++ [a ++ r] := by
 simp [putLast, List.getLastD_eq_getLast?]
theorem runB_in (most : Nat) : ∀ (l : List By) (i : Nat) (out : List By) (a : By), i % most ≠ 0 → i % most + l.length ≤ most → l.foldl (stepB most) (i, out ++ [a]) = (i + l.length, out ++ [a ++ l.flatten])
 | [], i, out, a, _, _ => by simp
 | r :: l, i, out, a, h, hl => by
   rw [List.foldl_cons]
   have h1 : stepB most (i, out ++ [a]) r = (i + 1, out ++ [a ++ r]) := by
    unfold stepB; rw [if_neg h, putLast_snoc]
   rw [h1]
   by_cases hn : l = []
   · subst hn; simp
   · have hlen : 0 < l.length := List.length_pos_iff.2 hn
     simp only [List.length_cons] at hl
     have hm : (i + 1) % most = i % most + 1 := by
      have hlt : i % most + 1 < most := by omega
      rw [Nat.add_mod, Nat.mod_eq_of_lt (a := 1) (by omega), Nat.mod_eq_of_lt hlt]
     rw [runB_in most l (i + 1) out (a ++ r) (by omega) (by omega)]
     simp; omega
theorem runB_block (most : Nat) (l : List By) (i : Nat) (out : List By) (hm : 0 < most) (h : i % most = 0) (hl : l.length ≤ most) (hn : l ≠ []) : l.foldl (stepB most) (i, out) = (i + l.length, out ++ [l.flatten]) := by
 cases l with
 | nil => exact absurd rfl hn
 | cons r l =>
   rw [List.foldl_cons]
   have h1 : stepB most (i, out) r = (i + 1, out ++ [r]) := by unfold stepB; rw [if_pos h]
   rw [h1]
   by_cases hn : l = []
   · subst hn; simp
   · have hlen : 0 < l.length := List.length_pos_iff.2 hn
     simp only [List.length_cons] at hl
     have hm1 : (i + 1) % most = 1 := by
      rw [Nat.add_mod, h, Nat.mod_eq_of_lt (a := 1) (by omega)]; simp; rw [Nat.mod_eq_of_lt (by omega)]
     rw [runB_in most l (i + 1) out r (by omega) (by omega)]
     simp; omega
theorem runB_all (most : Nat) (hm : 0 < most) : ∀ (f : Nat) (l : List By) (i : Nat) (out : List By), l.length ≤ f → i % most = 0 → (l.foldl (stepB most) (i, out)).2 = out ++ fixA most f l
 | 0, l, i, out, hf, _ => by
   have : l = [] := List.length_eq_zero_iff.1 (by omega)
   subst this; simp [fixA]
 | f + 1, l, i, out, hf, h => by
   unfold fixA
   by_cases hn : l = []
   · subst hn; simp
   · rw [if_neg hn]
     have hlen : 0 < l.length := List.length_pos_iff.2 hn
     by_cases hs : l.length ≤ most
     · rw [runB_block most l i out hm h hs hn, List.take_of_length_le hs, List.drop_eq_nil_of_le hs]
       cases f <;> simp [fixA]
     · have hsp : l = l.take most ++ l.drop most := (List.take_append_drop most l).symm
       have htl : (l.take most).length = most := by rw [List.length_take]; omega
       have htn : l.take most ≠ [] := fun e => by rw [e] at htl; simp at htl; omega
       conv => lhs; rw [hsp]
       rw [List.foldl_append, runB_block most (l.take most) i out hm h (by omega) htn, htl]
       rw [runB_all most hm f (l.drop most) (i + most) _ (by rw [List.length_drop]; omega) (by rw [Nat.add_mod_right]; exact h)]
       simp
theorem fixB_eq (most : Nat) (hm : 0 < most) (l : List By) : fixB most l = fixA most l.length l := by
 have := runB_all most hm l.length l 0 [] (Nat.le_refl _) (Nat.zero_mod _)
 simpa [fixB] using this
/-! ### Records with lengths of their own -/
/-- The program: blocks so far, and the forms of the last one. -/
def varStepA (block : Nat) (s : List By × By) (r : By) : List By × By :=
 if s.2 ≠ [] ∧ block < 4 + s.2.length + (form r).length then (s.1 ++ [whole s.2], form r) else (s.1, s.2 ++ form r)
def varA (block : Nat) (l : List By) : List By :=
 let s := l.foldl (varStepA block) ([], [])
 if s.2 ≠ [] then s.1 ++ [whole s.2] else s.1
/-- The reference: blocks so far, and the records of the last one. -/
def blockOf (l : List By) : By := whole (l.map form).flatten
def varStepB (block : Nat) (s : List By × List By) (r : By) : List By × List By :=
 if block < (blockOf (s.2 ++ [r])).length then (s.1 ++ [blockOf s.2], [r]) else (s.1, s.2 ++ [r])
def varB (block : Nat) (l : List By) : List By :=
 let s := l.foldl (varStepB block) ([], [])
 if 0 < s.2.length then s.1 ++ [blockOf s.2] else s.1
theorem form_ne (r : By) : form r ≠ [] := by intro h; have := form_length r; rw [h, List.length_nil] at this; omega
theorem forms_nil {l : List By} (h : (l.map form).flatten = []) : l = [] := by
 cases l with
 | nil => rfl
 | cons r l => simp [form_ne] at h
theorem var_step (block length : Nat) (hb : length + 8 ≤ block) (out : List By) (last : List By) (r : By) (hr : r.length ≤ length) :
 varStepA block (out, (last.map form).flatten) r = ((varStepB block (out, last) r).1, ((varStepB block (out, last) r).2.map form).flatten) := by
 unfold varStepA varStepB
 have hlen : (blockOf (last ++ [r])).length = 4 + (last.map form).flatten.length + (form r).length := by
  unfold blockOf; rw [whole_length]; simp; omega
 by_cases hn : last = []
 · subst hn
   have h1 : ¬ block < (blockOf ([] ++ [r])).length := by rw [hlen, form_length]; simp; omega
   rw [if_neg h1, if_neg (by simp)]; simp
 · have hne : (last.map form).flatten ≠ [] := fun e => hn (forms_nil e)
   simp only [hlen, hne, ne_eq, not_false_eq_true, true_and]
   split
   · simp [blockOf]
   · simp
theorem var_run (block length : Nat) (hb : length + 8 ≤ block) : ∀ (l : List By) (out last : List By), (∀ r ∈ l, r.length ≤ length) →
 l.foldl (varStepA block) (out, (last.map form).flatten) = ((l.foldl (varStepB block) (out, last)).1, ((l.foldl (varStepB block) (out, last)).2.map form).flatten)
 | [], out, last, _ => rfl
 | r :: l, out, last, h => by
   rw [List.foldl_cons, List.foldl_cons, var_step block length hb out last r (h r (by simp))]
   exact var_run block length hb l _ _ (fun x hx => h x (List.mem_cons_of_mem _ hx))
theorem varB_eq (block length : Nat) (hb : length + 8 ≤ block) (l : List By) (h : ∀ r ∈ l, r.length ≤ length) : varB block l = varA block l := by
 have h0 := var_run block length hb l [] [] h
 have h0 : l.foldl (varStepA block) ([], []) = _ := h0
 unfold varA varB
 simp only [h0]
 generalize l.foldl (varStepB block) ([], []) = s
 by_cases hn : s.2 = []
 · rw [hn]; simp
 · have hne : (s.2.map form).flatten ≠ [] := fun e => hn (forms_nil e)
   rw [if_pos (List.length_pos_iff.2 hn), if_pos hne]; rfl
/-! ### Records that may be longer than a block -/
def code (b a : Bool) : UInt8 := if b then (if a then 3 else 2) else (if a then 1 else 0)
def segF (b a : Bool) (d : By) : By := [b8 ((d.length + 4) / 256), b8 ((d.length + 4) % 256), code b a, 0] ++ d
theorem segF_length (b a : Bool) (d : By) : (segF b a d).length = 4 + d.length := by simp [segF]; omega
/-- The program: the parts of a record behind the first one, each a block. -/
def restA (block : Nat) : Nat → Bool → By → List By
 | 0, _, _ => []
 | f + 1, begun, r => whole (segF begun (decide (min (block - 8) r.length < r.length)) (r.take (block - 8))) :: (if min (block - 8) r.length = r.length then [] else restA block f true (r.drop (block - 8)))
/-- The program: what becomes of the last block ([] if it stays), and the new ones. -/
def addA (block : Nat) (last r : By) : By × List By :=
 if last ≠ [] ∧ last.length + 4 ≤ block ∧ (r.length ≤ block - last.length - 4 ∨ 1 ≤ block - last.length - 4) then
  (whole (last.drop 4 ++ segF false (decide (min (block - last.length - 4) r.length < r.length)) (r.take (block - last.length - 4))),
    if min (block - last.length - 4) r.length = r.length then [] else restA block (r.length + 1) true (r.drop (block - last.length - 4)))
 else ([], restA block (r.length + 1) false r)
def spanStepA (block : Nat) (out : List By) (r : By) : List By :=
 let x := addA block (out.getLastD []) r
 (if x.1 ≠ [] then out.dropLast ++ [x.1] else out) ++ x.2
def spanA (block : Nat) (l : List By) : List By := l.foldl (spanStepA block) []
/-- The reference: a further segment. -/
def addB (blk : By) (b a : Bool) (d : By) : By := whole ((if blk ≠ [] then blk.drop 4 else []) ++ segF b a d)
/-- The reference: blocks from the last one on. -/
def putB (size : Nat) : Nat → Bool → By → By → List By
 | 0, _, blk, _ => [blk]
 | f + 1, before, blk, r =>
   let room := size - max 4 blk.length - 4
   if max 4 blk.length + 4 ≤ size ∧ r.length ≤ room then [addB blk before false r]
   else if max 4 blk.length + 4 ≤ size ∧ 1 ≤ room then addB blk before true (r.take room) :: putB size f true [] (r.drop room)
   else blk :: putB size f before [] r
def spanStepB (size : Nat) (out : List By) (r : By) : List By :=
 if out = [] then putB size (r.length + 2) false [] r else out.dropLast ++ putB size (r.length + 2) false (out.getLastD []) r
theorem addB_nil (b a : Bool) (d : By) : addB [] b a d = whole (segF b a d) := by simp [addB]
theorem putB_nil (size : Nat) (hs : 9 ≤ size) : ∀ (f g : Nat) (before : Bool) (r : By), r.length < f → r.length < g → putB size f before [] r = restA size g before r
 | 0, g, before, r, hf, hg => by omega
 | f + 1, 0, before, r, hf, hg => by omega
 | f + 1, g + 1, before, r, hf, hg => by
   unfold putB restA
   simp only [List.length_nil, Nat.max_zero]
   have e : size - 4 - 4 = size - 8 := by omega
   rw [e]
   by_cases h1 : r.length ≤ size - 8
   · rw [if_pos ⟨by omega, h1⟩, addB_nil, List.take_of_length_le h1, Nat.min_eq_right h1]; simp
   · rw [if_neg (fun h => h1 h.2), if_pos ⟨by omega, by omega⟩, addB_nil]
     have h2 : min (size - 8) r.length = size - 8 := Nat.min_eq_left (by omega)
     rw [h2, if_neg (by omega)]
     have h3 : decide (size - 8 < r.length) = true := by simp; omega
     rw [h3, putB_nil size hs f g true (r.drop (size - 8)) (by rw [List.length_drop]; omega) (by rw [List.length_drop]; omega)]
theorem whole_ne (s : By) : whole s ≠ [] := by intro h; have := whole_length s; rw [h, List.length_nil] at this; omega
theorem put_add (size : Nat) (hs : 9 ≤ size) (last r : By) (hl : 4 ≤ last.length) :
 putB size (r.length + 2) false last r = (if (addA size last r).1 ≠ [] then [(addA size last r).1] else [last]) ++ (addA size last r).2 := by
 have hne : last ≠ [] := fun e => by subst e; simp at hl
 have hmax : max 4 last.length = last.length := Nat.max_eq_right hl
 unfold putB
 simp only [hmax]
 by_cases h1 : last.length + 4 ≤ size
 · by_cases h2 : r.length ≤ size - last.length - 4
   · have hA : addA size last r = (whole (last.drop 4 ++ segF false (decide (min (size - last.length - 4) r.length < r.length)) (r.take (size - last.length - 4))), if min (size - last.length - 4) r.length = r.length then [] else restA size (r.length + 1) true (r.drop (size - last.length - 4))) := by
      unfold addA; rw [if_pos ⟨hne, h1, Or.inl h2⟩]
     rw [hA, if_pos ⟨h1, h2⟩]
     simp only [whole_ne, ne_eq, not_false_eq_true, if_true]
     rw [Nat.min_eq_right h2, List.take_of_length_le h2]
     simp [addB, hne]
   · rw [if_neg (fun h => h2 h.2)]
     by_cases h3 : 1 ≤ size - last.length - 4
     · have hA : addA size last r = (whole (last.drop 4 ++ segF false (decide (min (size - last.length - 4) r.length < r.length)) (r.take (size - last.length - 4))), if min (size - last.length - 4) r.length = r.length then [] else restA size (r.length + 1) true (r.drop (size - last.length - 4))) := by
        unfold addA; rw [if_pos ⟨hne, h1, Or.inr h3⟩]
       rw [hA, if_pos ⟨h1, h3⟩]
       simp only [whole_ne, ne_eq, not_false_eq_true, if_true]
       have h4 : min (size - last.length - 4) r.length = size - last.length - 4 := Nat.min_eq_left (by omega)
       rw [h4, if_neg (by omega)]
       have h5 : decide (size - last.length - 4 < r.length) = true := by simp; omega
       rw [h5, putB_nil size hs (r.length + 1) (r.length + 1) true _ (by rw [List.length_drop]; omega) (by rw [List.length_drop]; omega)]
       simp [addB, hne]
     · have hA : addA size last r = ([], restA size (r.length + 1) false r) := by
        unfold addA; rw [if_neg (fun h => h.2.2.elim h2 h3)]
       rw [hA, if_neg (fun h => h3 h.2)]
       simp only [ne_eq, not_true_eq_false, if_false]
       rw [putB_nil size hs (r.length + 1) (r.length + 1) false r (by omega) (by omega)]; rfl
 · have hA : addA size last r = ([], restA size (r.length + 1) false r) := by
    unfold addA; rw [if_neg (fun h => h1 h.2.1)]
   rw [hA, if_neg (fun h => h1 h.1), if_neg (fun h => h1 h.1)]
   simp only [ne_eq, not_true_eq_false, if_false]
   rw [putB_nil size hs (r.length + 1) (r.length + 1) false r (by omega) (by omega)]; rfl
theorem restA_big (block : Nat) : ∀ (f : Nat) (b : Bool) (r : By), ∀ x ∈ restA block f b r, 4 ≤ x.length
 | 0, _, _, x, h => by simp [restA] at h
 | f + 1, b, r, x, h => by
   unfold restA at h
   rcases List.mem_cons.1 h with h | h
   · subst h; rw [whole_length]; omega
   · split at h
     · simp at h
     · exact restA_big block f true _ x h
theorem addA_big (block : Nat) (last r : By) : (∀ x ∈ (addA block last r).2, 4 ≤ x.length) ∧ ((addA block last r).1 ≠ [] → 4 ≤ (addA block last r).1.length) := by
 unfold addA
 split
 · refine ⟨fun x hx => ?_, fun _ => by rw [whole_length]; omega⟩
   split at hx
   · simp at hx
   · exact restA_big block _ _ _ x hx
 · exact ⟨fun x hx => restA_big block _ _ _ x hx, fun h => absurd rfl h⟩
theorem spanStepA_big (block : Nat) (out : List By) (r : By) (h : ∀ x ∈ out, 4 ≤ x.length) : ∀ x ∈ spanStepA block out r, 4 ≤ x.length := by
 intro x hx
 have hb := addA_big block (out.getLastD []) r
 unfold spanStepA at hx
 simp only at hx
 rcases List.mem_append.1 hx with h1 | h1
 · split at h1
   · rename_i hne
     rcases List.mem_append.1 h1 with h2 | h2
     · exact h x (List.dropLast_subset _ h2)
     · rw [List.mem_singleton] at h2; subst h2; exact hb.2 hne
   · exact h x h1
 · exact hb.1 x h1
theorem span_step (block : Nat) (hb : 9 ≤ block) (out : List By) (r : By) (h : ∀ x ∈ out, 4 ≤ x.length) : spanStepB block out r = spanStepA block out r := by
 unfold spanStepB spanStepA
 by_cases hn : out = []
 · subst hn
   rw [if_pos rfl, putB_nil block hb (r.length + 2) (r.length + 1) false r (by omega) (by omega)]
   simp [addA, List.getLastD]
 · rw [if_neg hn]
   have hl : out.getLastD [] ∈ out := by
    rw [List.getLastD_eq_getLast?, List.getLast?_eq_some_getLast hn]; exact List.getLast_mem hn
   rw [put_add block hb _ r (h _ hl)]
   simp only
   by_cases hx : (addA block (out.getLastD []) r).1 = []
   · simp only [hx, ne_eq, not_true_eq_false, if_false]
     rw [← List.append_assoc]
     congr 1
     rw [List.getLastD_eq_getLast?, List.getLast?_eq_some_getLast hn]
     exact List.dropLast_concat_getLast hn
   · simp only [ne_eq, hx, not_false_eq_true, if_true]; rw [List.append_assoc]
def zeros (n : Nat) : By := List.replicate n 0
def pad (s : By) : By := s ++ zeros (128 - s.length)
def le2 (n : Nat) : By := [b8 (n % 256), b8 (n / 256)]
def streamOf (l : List By) : By := (l.map fun b => le2 b.length ++ b).flatten
/-- The program: 128 bytes, again and again. -/
def secA : Nat → By → List By
 | 0, _ => []
 | f + 1, s => if s = [] then [] else pad (s.take (min s.length 128)) :: secA f (s.drop (min s.length 128))
/-- The reference: from 0 on in steps of 128. -/
def secB : Nat → By → Nat → List By
 | 0, _, _ => []
 | f + 1, s, i => if i < s.length then pad ((s.drop i).take 128) :: secB f s (i + 128) else []
theorem secB_eq : ∀ (f : Nat) (s : By) (i : Nat), secB f s i = secA f (s.drop i)
 | 0, _, _ => rfl
 | f + 1, s, i => by
   unfold secA secB
   by_cases h : i < s.length
   · have hn : s.drop i ≠ [] := fun e => by have := congrArg List.length e; simp at this; omega
     rw [if_pos h, if_neg hn, secB_eq f s (i + 128)]
     have hl : (s.drop i).length = s.length - i := List.length_drop
     by_cases h2 : s.length - i ≤ 128
     · have e1 : (s.drop i).take (s.length - i) = s.drop i := List.take_of_length_le (by rw [hl]; omega)
       have e2 : (s.drop i).take 128 = s.drop i := List.take_of_length_le (by rw [hl]; omega)
       have e3 : (s.drop i).drop (s.length - i) = [] := List.drop_eq_nil_of_le (by rw [hl]; omega)
       have e4 : s.drop (i + 128) = [] := List.drop_eq_nil_of_le (by omega)
       rw [hl, Nat.min_eq_left h2, e1, e2, e3, e4]
     · rw [hl, Nat.min_eq_right (by omega), List.drop_drop]
   · have hn : s.drop i = [] := List.drop_eq_nil_of_le (by omega)
     rw [if_neg h, if_pos hn]
end
end Go.Proofs.YtcefkngblddpoaaGreatDoor

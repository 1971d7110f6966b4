/-
  Plain mathematics of dumps: the frames of an archive, and what is read of them. No walk, no condition.
  Plain mathematics of dumps: what is dumped is read again. No walk, no condition but a valid archive.
  Walks: truth values and numbers appended to an item. Conditions: numbers in memory that can be stored.
  Walk: the items of an archive. Conditions: a valid archive in memory.
-/
import Derived.Test.YtckpepfkfjdnhaaGreatDoorQCC
import Derived.Test.YtckpepfkfjdnhaaGreatDoorQTT
import Derived.Test.YtckpepfkfjdnhaaGreatDoorQVA
import Derived.Test.YtckpepfkfjdnhaaGreatDoorQJ11
import Derived.Test.YtckpepfkfjdnhaaGreatDoorQI
import Derived.Test.YtckpepfkfjdnhaaGreatDoorQV
namespace Go.Proofs.YtckpepfkfjdnhaaGreatDoor

section
open Go.RowKit Go.Sort

theorem dec_num : ∀ (f i acc x : Nat) (rest : By), i + f = 10 → x < 2 ^ (63 - 7 * i) → (0 < i → x ≠ 0) → decG f i acc (numF f x ++ rest) = (acc + x * 2 ^ (7 * i), i + (numF f x).length)
 | 0, i, acc, x, rest, hi, hx, h0 => by
   have : i = 10 := by omega
   subst this
   simp at hx
   exact absurd hx (h0 (by omega))
 | f + 1, i, acc, x, rest, hi, hx, h0 => by
   have hp : 2 ^ (63 - 7 * i) = if i = 9 then 1 else 128 * 2 ^ (63 - 7 * (i + 1)) := by
     split
     · rename_i h; subst h; rfl
     · rw [show 63 - 7 * i = 7 + (63 - 7 * (i + 1)) by omega, Nat.pow_add]
   unfold numF
   by_cases hs : x < 128
   · rw [if_pos hs]
     have hb : (b8 x).toNat = x := by simp [b8]; omega
     rw [List.cons_append, List.nil_append, decG, hb]
     rw [if_neg (by rintro ⟨rfl, h1⟩; simp at hx; omega), if_pos hs, if_neg (by rintro ⟨h1, h2⟩; exact h0 h2 h1), Nat.mod_eq_of_lt hs]
     rfl
   · rw [if_neg hs]
     have hb : (b8 (x % 128 + 128)).toNat = x % 128 + 128 := by simp [b8]; omega
     have hi9 : ¬ i = 9 := by rintro rfl; simp at hx; omega
     rw [if_neg hi9] at hp
     rw [List.cons_append, decG, hb]
     rw [if_neg (fun h => hi9 h.1), if_neg (by omega)]
     have hd : x / 128 < 2 ^ (63 - 7 * (i + 1)) := by
       generalize 2 ^ (63 - 7 * (i + 1)) = y at hp ⊢
       omega
     rw [dec_num f (i + 1) _ (x / 128) rest (by omega) hd (fun _ => by omega), show (x % 128 + 128) % 128 = x % 128 by omega]
     have e : 2 ^ (7 * (i + 1)) = 128 * 2 ^ (7 * i) := by rw [show 7 * (i + 1) = 7 + 7 * i by omega, Nat.pow_add]
     rw [e, List.length_cons, ← Nat.mul_assoc]
     congr 1
     · rw [Nat.add_assoc, ← Nat.add_mul, show x % 128 + x / 128 * 128 = x by omega]
     · omega
theorem num_pos (n : Nat) : 0 < (num n).length := by
 unfold num; rw [show (10 : Nat) = 9 + 1 by rfl, numF]; split <;> simp
theorem cnt_num (most n : Nat) (rest : By) (h : n ≤ most) (hn : n < 2 ^ 63) : cntR most (num n ++ rest) 0 = (n, rest, 0) := by
 have hd : decV (num n ++ rest) = (n, (num n).length) := by
   unfold decV num
   rw [dec_num 10 0 0 n rest rfl (by simpa using hn) (fun h => absurd h (by omega))]
   simp
 have hp := num_pos n
 have hr : numR (num n ++ rest) 0 = (n, rest, 0) := by
   unfold numR
   rw [if_pos rfl, hd]
   simp only
   rw [if_neg (by omega), List.drop_left' rfl]
 unfold cntR
 rw [hr]
 simp only
 rw [if_pos trivial, if_neg (by omega)]

/-! ### What is read: truth values, texts, several numbers -/
def cntsR (most : Nat) : Nat → By → Int → List Nat × By × Int
 | 0, l, e => ([], l, e)
 | k + 1, l, e => ((cntR most l e).1 :: (cntsR most k (cntR most l e).2.1 (cntR most l e).2.2).1, (cntsR most k (cntR most l e).2.1 (cntR most l e).2.2).2)
def bitB (b : Bool) : By := [if b then 1 else 0]
def numsB : List Int → By
 | [] => []
 | n :: l => num n.toNat ++ numsB l
theorem numsB_len : ∀ l : List Int, (numsB l).length ≤ 10 * l.length
 | [] => by simp [numsB]
 | x :: l => by
   have h1 := num_length x.toNat
   have h2 := numsB_len l
   rw [numsB, List.length_append, List.length_cons]; omega
theorem bool_bit (b : Bool) (r : By) : boolR (bitB b ++ r) 0 = (b, r, 0) := by
 cases b <;> rfl
theorem text_text (most : Nat) (t r : By) (h : t.length ≤ most) (h2 : most < 2 ^ 63) : textR most (textB t ++ r) 0 = (t, r, 0) := by
 have hc : cntR most (textB t ++ r) 0 = (t.length, t ++ r, 0) := by
   unfold textB
   rw [List.append_assoc]
   exact cnt_num most t.length (t ++ r) h (by omega)
 unfold textR
 rw [hc]
 simp only
 rw [if_pos trivial, if_neg (by rw [List.length_append]; omega), List.take_left' rfl, List.drop_left' rfl]
theorem cnts_nums (most : Nat) (hm : most < 2 ^ 63) : ∀ (l : List Int) (r : By), (∀ x ∈ l, 0 ≤ x ∧ x ≤ most) → cntsR most l.length (numsB l ++ r) 0 = (l.map Int.toNat, r, 0)
 | [], r, _ => rfl
 | x :: l, r, h => by
   have hx := h x (by simp)
   have ih := cnts_nums most hm l r (fun y hy => h y (by simp [hy]))
   have hc := cnt_num most x.toNat (numsB l ++ r) (by omega) (by omega)
   simp only [List.length_cons, cntsR, numsB, List.append_assoc, hc, ih, List.map_cons]
theorem textR_len (most : Nat) (l : By) (e : Int) : (textR most l e).2.1.length ≤ l.length := by
 have := cntR_len most l e
 unfold textR
 split
 · split
   · simp
   · simp only [List.length_drop]; omega
 · exact this
theorem boolR_len (l : By) (e : Int) : (boolR l e).2.1.length ≤ l.length := by
 unfold boolR
 split
 · cases l with
   | nil => simp
   | cons b r =>
     simp only
     split <;> simp
 · exact Nat.le_refl _
theorem cntsR_len (most : Nat) : ∀ (k : Nat) (l : By) (e : Int), (cntsR most k l e).2.1.length ≤ l.length
 | 0, _, _ => Nat.le_refl _
 | k + 1, l, e => by
   simp only [cntsR]
   exact Nat.le_trans (cntsR_len most k _ _) (cntR_len most l e)
theorem cntsR_len1 (most : Nat) : ∀ (k : Nat) (l : By) (e : Int), (cntsR most k l e).1.length = k
 | 0, _, _ => rfl
 | k + 1, l, e => by simp only [cntsR, List.length_cons, cntsR_len1 most k]

/-! ### Items -/
/-- The first numbers of a description. -/
def fourteen (z : Rest) (org fmt len blk : Int) : List Int := [z.id, org, fmt, len, blk, z.kat, z.klen, z.ivl, z.area, z.fivl, z.fare, z.base, z.aat, z.alen]
def headA (z : Rest) (org fmt len blk ap : Int) (n : Nat) : By :=
 numsB (fourteen z org fmt len blk) ++ (bitB z.uniq ++ (numsB [z.cls] ++ (textB z.vol ++ (textB z.own ++ (numsB [z.cre, z.exp] ++ (bitB z.arch ++ numsB [ap, (n : Int)]))))))
def itemA (p : Pr) : By := textB p.1 ++ textB p.2
/-- What stands behind the first numbers. -/
structure Hd where
 ns : List Nat
 uniq : Bool
 cls : Nat
 vol : By
 own : By
 cre : Nat
 exp : Nat
 arch : Bool
 ap : Nat
 n : Nat
def restOfHd (h : Hd) : Rest :=
 ⟨(h.ns.getD 0 0 : Nat), (h.ns.getD 5 0 : Nat), (h.ns.getD 6 0 : Nat), (h.ns.getD 7 0 : Nat), (h.ns.getD 8 0 : Nat), (h.ns.getD 9 0 : Nat), (h.ns.getD 10 0 : Nat), (h.ns.getD 11 0 : Nat), (h.ns.getD 12 0 : Nat), (h.ns.getD 13 0 : Nat), h.uniq, h.cls, h.vol, h.own, h.cre, h.exp, h.arch⟩
abbrev Hd.i (h : Hd) (k : Nat) : Int := ((h.ns.getD k 0 : Nat) : Int)

/-- The stages of reading a first item: each a reader's rest and error. -/
def st1 (s : By) := cntsR 1099511627776 14 s 0
def st2 (s : By) := boolR (st1 s).2.1 (st1 s).2.2
def st3 (s : By) := cntsR 1099511627776 1 (st2 s).2.1 (st2 s).2.2
def st4 (s : By) := textR 31 (st3 s).2.1 (st3 s).2.2
def st5 (s : By) := textR 31 (st4 s).2.1 (st4 s).2.2
def st6 (s : By) := cntsR 1099511627776 2 (st5 s).2.1 (st5 s).2.2
def st7 (s : By) := boolR (st6 s).2.1 (st6 s).2.2
def st8 (s : By) := cntsR 1099511627776 1 (st7 s).2.1 (st7 s).2.2
def st9 (s : By) := cntR 1024 (st8 s).2.1 (st8 s).2.2
def firstV (s : By) : Option Hd :=
 if (st9 s).2.2 = 0 ∧ (st9 s).2.1 = [] then
   some ⟨(st1 s).1, (st2 s).1, (st3 s).1.getD 0 0, (st4 s).1, (st5 s).1, (st6 s).1.getD 0 0, (st6 s).1.getD 1 0, (st7 s).1, (st8 s).1.getD 0 0, (st9 s).1⟩ else none
def hdOf (z : Rest) (org fmt len blk ap : Int) (n : Nat) : Hd := ⟨(fourteen z org fmt len blk).map Int.toNat, z.uniq, z.cls.toNat, z.vol, z.own, z.cre.toNat, z.exp.toNat, z.arch, ap.toNat, n⟩
theorem numV_iff {n : Int} : numV n = true ↔ 0 ≤ n ∧ n ≤ 1099511627776 := by unfold numV; simp
theorem first_head (z : Rest) (org fmt len blk ap : Int) (n : Nat) (h : ∀ x ∈ numsL z org fmt len blk ++ [ap], numV x = true) (hv : z.vol.length ≤ 31) (ho : z.own.length ≤ 31) (hn : n ≤ 1024) :
   firstV (headA z org fmt len blk ap n) = some (hdOf z org fmt len blk ap n) := by
 have H : ∀ x ∈ numsL z org fmt len blk ++ [ap], 0 ≤ x ∧ x ≤ (1099511627776 : Nat) := fun x hx => numV_iff.1 (h x hx)
 have hm : (1099511627776 : Nat) < 2 ^ 63 := by decide
 have h0 : numsB [ap, (n : Int)] = numsB [ap] ++ numsB [(n : Int)] := by simp [numsB]
 obtain ⟨r7, h7⟩ : ∃ r, r = numsB [ap] ++ numsB [(n : Int)] := ⟨_, rfl⟩
 obtain ⟨r6, h6⟩ : ∃ r, r = bitB z.arch ++ r7 := ⟨_, rfl⟩
 obtain ⟨r5, h5⟩ : ∃ r, r = numsB [z.cre, z.exp] ++ r6 := ⟨_, rfl⟩
 obtain ⟨r4, h4⟩ : ∃ r, r = textB z.own ++ r5 := ⟨_, rfl⟩
 obtain ⟨r3, h3⟩ : ∃ r, r = textB z.vol ++ r4 := ⟨_, rfl⟩
 obtain ⟨r2, h2⟩ : ∃ r, r = numsB [z.cls] ++ r3 := ⟨_, rfl⟩
 obtain ⟨r1, h1⟩ : ∃ r, r = bitB z.uniq ++ r2 := ⟨_, rfl⟩
 have hh : headA z org fmt len blk ap n = numsB (fourteen z org fmt len blk) ++ r1 := by unfold headA; rw [h0, h1, h2, h3, h4, h5, h6, h7]
 have e1 : st1 (headA z org fmt len blk ap n) = ((fourteen z org fmt len blk).map Int.toNat, r1, 0) := by
   unfold st1; rw [hh]
   exact cnts_nums 1099511627776 hm (fourteen z org fmt len blk) r1 (fun x hx => H x (by simp only [fourteen, numsL, List.cons_append, List.nil_append, List.mem_cons, List.not_mem_nil, or_false] at hx ⊢; rcases hx with rfl | rfl | rfl | rfl | rfl | rfl | rfl | rfl | rfl | rfl | rfl | rfl | rfl | rfl <;> simp))
 have e2 : st2 (headA z org fmt len blk ap n) = (z.uniq, r2, 0) := by unfold st2; rw [e1, h1]; exact bool_bit _ _
 have e3 : st3 (headA z org fmt len blk ap n) = ([z.cls].map Int.toNat, r3, 0) := by unfold st3; rw [e2, h2]; exact cnts_nums 1099511627776 hm [z.cls] _ (fun x hx => H x (by simp at hx; subst hx; simp [numsL]))
 have e4 : st4 (headA z org fmt len blk ap n) = (z.vol, r4, 0) := by unfold st4; rw [e3, h3]; exact text_text 31 _ _ hv (by decide)
 have e5 : st5 (headA z org fmt len blk ap n) = (z.own, r5, 0) := by unfold st5; rw [e4, h4]; exact text_text 31 _ _ ho (by decide)
 have e6 : st6 (headA z org fmt len blk ap n) = ([z.cre, z.exp].map Int.toNat, r6, 0) := by unfold st6; rw [e5, h5]; exact cnts_nums 1099511627776 hm [z.cre, z.exp] _ (fun x hx => H x (by simp at hx; rcases hx with rfl | rfl <;> simp [numsL]))
 have e7 : st7 (headA z org fmt len blk ap n) = (z.arch, r7, 0) := by unfold st7; rw [e6, h6]; exact bool_bit _ _
 have e8 : st8 (headA z org fmt len blk ap n) = ([ap].map Int.toNat, numsB [(n : Int)], 0) := by
   unfold st8; rw [e7, h7]
   exact cnts_nums 1099511627776 hm [ap] (numsB [(n : Int)]) (fun x hx => H x (by simp at hx; subst hx; simp))
 have e9 : st9 (headA z org fmt len blk ap n) = (n, [], 0) := by
   unfold st9; rw [e8]
   have := cnt_num 1024 n [] hn (by omega)
   simpa [numsB] using this
 unfold firstV hdOf
 rw [e9, e8, e7, e6, e5, e4, e3, e2, e1]
 simp
theorem hdOf_back (z : Rest) (org fmt len blk ap : Int) (n : Nat) (h : ∀ x ∈ numsL z org fmt len blk ++ [ap], numV x = true) :
   restOfHd (hdOf z org fmt len blk ap n) = z ∧ (hdOf z org fmt len blk ap n).i 1 = org ∧ (hdOf z org fmt len blk ap n).i 2 = fmt ∧ (hdOf z org fmt len blk ap n).i 3 = len ∧ (hdOf z org fmt len blk ap n).i 4 = blk ∧ ((hdOf z org fmt len blk ap n).ap : Int) = ap ∧ (hdOf z org fmt len blk ap n).n = n := by
 have H : ∀ x ∈ numsL z org fmt len blk ++ [ap], ((x.toNat : Nat) : Int) = x := fun x hx => by have := numV_iff.1 (h x hx); omega
 have key : ∀ x, x ∈ numsL z org fmt len blk ++ [ap] → max x 0 = x := fun x hx => by have := numV_iff.1 (h x hx); omega
 simp only [numsL, List.cons_append, List.nil_append, List.forall_mem_cons, List.not_mem_nil, false_imp_iff, forall_const] at H
 obtain ⟨h1, h2, h3, h4, h5, h6, h7, h8, h9, h10, h11, h12, h13, h14, h15, h16, h17, h18, -⟩ := H
 obtain ⟨a1, a2, a3, a4, a5, a6, a7, a8, a9, a10, a11, a12, a13, a14, a15, a16, a17⟩ := z
 simp only at h1 h2 h3 h4 h5 h6 h7 h8 h9 h10 h11 h12 h13 h14 h15 h16 h17 h18
 simp only [restOfHd, hdOf, fourteen, Hd.i, List.map_cons, List.map_nil, List.getD_cons_zero, List.getD_cons_succ, h1, h2, h3, h4, h5, h6, h7, h8, h9, h10, h11, h12, h13, h14, h15, h16, h17, h18, and_self]
/-- The pair that an item tells. -/
def pairV (t : By) : Option Pr :=
 if (textR 1000 (textR 32 t 0).2.1 (textR 32 t 0).2.2).2.2 = 0 ∧ (textR 1000 (textR 32 t 0).2.1 (textR 32 t 0).2.2).2.1 = [] then some ((textR 32 t 0).1, (textR 1000 (textR 32 t 0).2.1 (textR 32 t 0).2.2).1) else none
theorem pair_item (p : Pr) (h : prOk p = true) : pairV (itemA p) = some p := by
 unfold prOk at h
 simp only [Bool.and_eq_true, decide_eq_true_eq] at h
 have e1 := text_text 32 p.1 (textB p.2) h.1 (by decide)
 have e2 := text_text 1000 p.2 [] h.2 (by decide)
 rw [List.append_nil] at e2
 unfold pairV itemA
 rw [e1, e2]
 simp
end

section
open Go.RowKit Go.Sort

/-- A frame: whether it is the first and the last one of its item, and its data. -/
abbrev Fr := Bool × Bool × By
def markB (a b : Bool) : Nat := (if a then 1 else 0) + (if b then 2 else 0)
def bodyF (n : Nat) (a b : Bool) (d : By) : By := [b8 (n % 256), b8 (n / 256), b8 (markB a b), b8 d.length] ++ d ++ zeros (56 - d.length)
def frameB (n : Nat) (a b : Bool) (d : By) : By := bodyF n a b d ++ Crc.bytes (Crc.sum (bodyF n a b d))
theorem bodyF_len (n : Nat) (a b : Bool) (d : By) (h : d.length ≤ 56) : (bodyF n a b d).length = 60 := by
 unfold bodyF zeros; simp only [List.length_append, List.length_cons, List.length_nil, List.length_replicate]; omega
theorem frameB_len (n : Nat) (a b : Bool) (d : By) (h : d.length ≤ 56) : (frameB n a b d).length = 64 := by
 unfold frameB; rw [List.length_append, bodyF_len n a b d h, Crc.bytes_length]
def b0 (s : By) (i : Nat) : Nat := (s.getD i 0).toNat
/-- The frame that 64 bytes are. -/
def readF (s : By) : Option (Nat × Fr) :=
 if b0 s 2 ≤ 3 ∧ 1 ≤ b0 s 3 ∧ b0 s 3 ≤ 56 ∧ frameB (b0 s 0 + 256 * b0 s 1) (decide (b0 s 2 % 2 = 1)) (decide (b0 s 2 / 2 % 2 = 1)) ((s.drop 4).take (b0 s 3)) = s
 then some (b0 s 0 + 256 * b0 s 1, decide (b0 s 2 % 2 = 1), decide (b0 s 2 / 2 % 2 = 1), (s.drop 4).take (b0 s 3)) else none
theorem readF_frame (n : Nat) (a b : Bool) (d : By) (hn : n ≤ 65535) (h1 : 1 ≤ d.length) (h2 : d.length ≤ 56) : readF (frameB n a b d) = some (n, a, b, d) := by
 have e0 : b0 (frameB n a b d) 0 = n % 256 := by simp [b0, frameB, bodyF, b8]
 have e1 : b0 (frameB n a b d) 1 = n / 256 := by simp [b0, frameB, bodyF, b8]; omega
 have e2 : b0 (frameB n a b d) 2 = markB a b := by cases a <;> cases b <;> simp [b0, frameB, bodyF, b8, markB]
 have e3 : b0 (frameB n a b d) 3 = d.length := by simp [b0, frameB, bodyF, b8]; omega
 have e4 : ((frameB n a b d).drop 4).take d.length = d := by
   unfold frameB bodyF
   rw [List.append_assoc, List.append_assoc, List.drop_left' (by rfl), List.take_left' rfl]
 have m1 : markB a b ≤ 3 := by cases a <;> cases b <;> decide
 have m2 : decide (markB a b % 2 = 1) = a := by cases a <;> cases b <;> decide
 have m3 : decide (markB a b / 2 % 2 = 1) = b := by cases a <;> cases b <;> decide
 have m4 : n % 256 + 256 * (n / 256) = n := by omega
 unfold readF
 rw [e0, e1, e2, e3, e4, m2, m3, m4, if_pos ⟨m1, h1, h2, rfl⟩]

/-! ### Frames found so far -/
abbrev Fm := List (Nat × Fr)
def fget (M : Fm) (n : Nat) : Option Fr := (M.find? fun x => x.1 == n).map (·.2)
def addF (M : Fm) (c : By) : Fm := match readF c with
 | some x => if (fget M x.1).isSome then M else M ++ [x]
 | none => M
def chunkF (s : By) (k : Nat) : By := (s.drop (64 * k)).take 64
def framesV (s : By) (j : Nat) : Fm := (List.range j).foldl (fun M k => addF M (chunkF s k)) []
theorem framesV_succ (s : By) (j : Nat) : framesV s (j + 1) = addF (framesV s j) (chunkF s j) := by unfold framesV; rw [List.range_succ, List.foldl_append]; rfl
/-- The rest of an item behind frame n. -/
def moreV (M : Fm) : Nat → Nat → By → Option By
 | 0, _, _ => none
 | f + 1, n, s => match fget M (n + 1) with
   | some x => if x.1 then none else if x.2.1 then some (s ++ x.2.2) else moreV M f (n + 1) (s ++ x.2.2)
   | none => none
def itemV (M : Fm) (n : Nat) : Option By := match fget M n with
 | some x => if x.1 then (if x.2.1 then some x.2.2 else moreV M (65536 - n) n x.2.2) else none
 | none => none
def keysF (M : Fm) : List Nat := M.map (·.1)
def sortedF (M : Fm) : List Nat := (keysF M).mergeSort (fun a b => decide (a ≤ b))
def pairsV (M : Fm) : List Pr := (sortedF M).filterMap fun n => if n = 0 then none else (itemV M n).bind pairV
/-- What is salvaged: the description, the number, the pairs. -/
def salvV (s : By) : Option (Hd × List Pr) := match itemV (framesV s (s.length / 64)) 0 with
 | none => none
 | some h => match firstV h with
   | none => none
   | some x => some (x, pairsV (framesV s (s.length / 64)))

/-! ### The frames of items -/
def pieceF (s : By) (j : Nat) : Fr := (decide (j = 0), decide (s.length ≤ 56 * j + 56), (s.drop (56 * j)).take 56)
def cntF (s : By) : Nat := (s.length + 55) / 56
def cutF (s : By) : List Fr := (List.range (cntF s)).map (pieceF s)
def framesL (items : List By) : List Fr := (items.map cutF).flatten
def encF : Nat → List Fr → By
 | _, [] => []
 | n, x :: r => frameB n x.1 x.2.1 x.2.2 ++ encF (n + 1) r
def itemsA (z : Rest) (org fmt len blk ap : Int) (l : List Pr) : List By := headA z org fmt len blk ap l.length :: l.map itemA
def encA (z : Rest) (org fmt len blk ap : Int) (l : List Pr) : By := encF 0 (framesL (itemsA z org fmt len blk ap l))
theorem encF_app : ∀ (a b : List Fr) (n : Nat), encF n (a ++ b) = encF n a ++ encF (n + a.length) b
 | [], b, n => by simp [encF]
 | x :: a, b, n => by rw [List.cons_append, encF, encF, encF_app a b, List.append_assoc, List.length_cons, show n + 1 + a.length = n + (a.length + 1) by omega]
theorem encF_snoc (a : List Fr) (x : Fr) (n : Nat) : encF n (a ++ [x]) = encF n a ++ frameB (n + a.length) x.1 x.2.1 x.2.2 := by rw [encF_app]; simp [encF]
theorem encF_len : ∀ (L : List Fr) (n : Nat), (∀ x ∈ L, x.2.2.length ≤ 56) → (encF n L).length = 64 * L.length
 | [], n, _ => by simp [encF]
 | x :: L, n, h => by
   rw [encF, List.length_append, frameB_len _ _ _ _ (h x (by simp)), encF_len L (n + 1) (fun y hy => h y (by simp [hy])), List.length_cons]; omega
theorem encF_chunk : ∀ (L : List Fr) (n k : Nat) (hk : k < L.length), (∀ x ∈ L, x.2.2.length ≤ 56) → chunkF (encF n L) k = frameB (n + k) L[k].1 L[k].2.1 L[k].2.2
 | x :: L, n, 0, _, h => by
   unfold chunkF
   rw [encF, Nat.mul_zero, List.drop_zero, List.take_left' (frameB_len _ _ _ _ (h x (by simp)))]; rfl
 | x :: L, n, k + 1, hk, h => by
   have ih := encF_chunk L (n + 1) k (by simpa using hk) (fun y hy => h y (by simp [hy]))
   unfold chunkF at ih ⊢
   have hl := frameB_len n x.1 x.2.1 x.2.2 (h x (by simp))
   rw [encF, show 64 * (k + 1) = (frameB n x.1 x.2.1 x.2.2).length + 64 * k by omega, ← List.drop_drop, List.drop_left, ih, show n + 1 + k = n + (k + 1) by omega]
   rfl
theorem pieceF_len (s : By) (j : Nat) (h : j < cntF s) : 1 ≤ (pieceF s j).2.2.length ∧ (pieceF s j).2.2.length ≤ 56 := by
 unfold cntF at h
 simp only [pieceF, List.length_take, List.length_drop]; omega
theorem framesL_len {items : List By} {x : Fr} (h : x ∈ framesL items) : 1 ≤ x.2.2.length ∧ x.2.2.length ≤ 56 := by
 unfold framesL at h
 rw [List.mem_flatten] at h
 obtain ⟨c, hc, hx⟩ := h
 rw [List.mem_map] at hc
 obtain ⟨s, _, rfl⟩ := hc
 unfold cutF at hx
 rw [List.mem_map] at hx
 obtain ⟨j, hj, rfl⟩ := hx
 exact pieceF_len s j (List.mem_range.1 hj)

/-! ### Items out of a list of frames -/
def moreD : List Fr → By → Option By
 | [], _ => none
 | x :: r, s => if x.1 then none else if x.2.1 then some (s ++ x.2.2) else moreD r (s ++ x.2.2)
def itemD : List Fr → Option By
 | [] => none
 | x :: r => if x.1 then (if x.2.1 then some x.2.2 else moreD r x.2.2) else none
def scanD : List Fr → List By
 | [] => []
 | x :: r => (itemD (x :: r)).toList ++ scanD r
theorem range_drop (c j : Nat) (h : j < c) : (List.range c).drop j = j :: (List.range c).drop (j + 1) := by
 rw [List.drop_eq_getElem_cons (by simpa using h)]; simp
theorem take_more (s : By) (j : Nat) : s.take (56 * j) ++ (s.drop (56 * j)).take 56 = s.take (56 * j + 56) := by rw [List.take_add]
theorem more_cut (s : By) (rest : List Fr) : ∀ (f j : Nat), cntF s - j = f → 1 ≤ j → j < cntF s → moreD (((List.range (cntF s)).drop j).map (pieceF s) ++ rest) (s.take (56 * j)) = some s
 | 0, j, hf, _, h => by omega
 | f + 1, j, hf, h1, h => by
   rw [range_drop _ _ h, List.map_cons, List.cons_append, moreD]
   have e : (pieceF s j).1 = false := by simp [pieceF]; omega
   rw [if_neg (by rw [e]; simp)]
   have et : s.take (56 * j) ++ (pieceF s j).2.2 = s.take (56 * j + 56) := take_more s j
   rw [et]
   by_cases hl : s.length ≤ 56 * j + 56
   · rw [if_pos (by simp [pieceF, hl]), List.take_of_length_le hl]
   · rw [if_neg (by simp [pieceF, hl])]
     have := more_cut s rest f (j + 1) (by omega) (by omega) (by unfold cntF at *; omega)
     rw [show 56 * (j + 1) = 56 * j + 56 by omega] at this
     exact this
theorem item_cut (s : By) (rest : List Fr) (hs : s ≠ []) : itemD (cutF s ++ rest) = some s := by
 have hp := List.length_pos_iff.2 hs
 have h0 : 0 < cntF s := by unfold cntF; omega
 have e : cutF s = pieceF s 0 :: ((List.range (cntF s)).drop 1).map (pieceF s) := by
   unfold cutF
   have := range_drop (cntF s) 0 h0
   rw [List.drop_zero] at this
   conv => lhs; rw [this]
   rfl
 rw [e, List.cons_append, itemD, if_pos (by simp [pieceF])]
 by_cases hl : s.length ≤ 56
 · rw [if_pos (by simp [pieceF, hl])]
   simp only [pieceF, Nat.mul_zero, List.drop_zero]
   rw [List.take_of_length_le hl]
 · rw [if_neg (by simp [pieceF]; omega)]
   have := more_cut s rest _ 1 rfl (Nat.le_refl _) (by unfold cntF; omega)
   simpa [pieceF] using this
theorem scan_tail (s : By) (rest : List Fr) : ∀ (f j : Nat), cntF s - j = f → 1 ≤ j → scanD (((List.range (cntF s)).drop j).map (pieceF s) ++ rest) = scanD rest
 | 0, j, hf, _ => by rw [List.drop_eq_nil_iff.2 (by simp; omega)]; simp
 | f + 1, j, hf, h1 => by
   rw [range_drop _ _ (by omega), List.map_cons, List.cons_append, scanD]
   have e : (pieceF s j).1 = false := by simp [pieceF]; omega
   rw [itemD, if_neg (by rw [e]; simp)]
   rw [scan_tail s rest f (j + 1) (by omega) (by omega)]; rfl
theorem cut_cons (s : By) (hs : s ≠ []) : cutF s = pieceF s 0 :: ((List.range (cntF s)).drop 1).map (pieceF s) := by
 have hp := List.length_pos_iff.2 hs
 have h0 : 0 < cntF s := by unfold cntF; omega
 unfold cutF
 have := range_drop (cntF s) 0 h0
 rw [List.drop_zero] at this
 conv => lhs; rw [this]
 rfl
theorem scan_items : ∀ (items : List By), (∀ s ∈ items, s ≠ []) → scanD (framesL items) = items
 | [], _ => rfl
 | s :: items, h => by
   have hs := h s (by simp)
   have ih := scan_items items (fun x hx => h x (by simp [hx]))
   have e : framesL (s :: items) = cutF s ++ framesL items := by simp [framesL]
   have hi := item_cut s (framesL items) hs
   have ht := scan_tail s (framesL items) _ 1 rfl (Nat.le_refl _)
   rw [e]
   rw [cut_cons s hs] at hi ⊢
   rw [List.cons_append] at hi ⊢
   rw [scanD, hi, ht, ih]; rfl

/-! ### The map of the frames of a list -/
def mapL (L : List Fr) (j : Nat) : Fm := (List.range j).map fun k => (k, L.getD k (false, false, []))
theorem find_range (g : Nat → Fr) (n : Nat) : ∀ j, ((List.range j).map fun k => (k, g k)).find? (fun x => x.1 == n) = if n < j then some (n, g n) else none
 | 0 => by simp
 | j + 1 => by
   rw [List.range_succ, List.map_append, List.find?_append, find_range g n j]
   by_cases h : n < j
   · rw [if_pos h, if_pos (by omega)]; rfl
   · rw [if_neg h]
     by_cases h2 : n = j
     · subst h2; simp
     · rw [if_neg (by omega)]
       simp [show ¬ j = n from fun e => h2 e.symm]
theorem fget_map (L : List Fr) (j n : Nat) (hj : j ≤ L.length) : fget (mapL L j) n = if n < j then L[n]? else none := by
 unfold fget mapL
 rw [find_range]
 by_cases h : n < j
 · rw [if_pos h, if_pos h, Option.map_some, List.getD_eq_getElem?_getD, List.getElem?_eq_getElem (by omega)]; rfl
 · rw [if_neg h, if_neg h]; rfl
theorem frames_map (L : List Fr) (hl : ∀ x ∈ L, 1 ≤ x.2.2.length ∧ x.2.2.length ≤ 56) (hn : L.length ≤ 65536) : ∀ j, j ≤ L.length → framesV (encF 0 L) j = mapL L j
 | 0, _ => rfl
 | j + 1, h => by
   have hj : j < L.length := by omega
   rw [framesV_succ, frames_map L hl hn j (by omega), encF_chunk L 0 j hj (fun x hx => (hl x hx).2)]
   have hx := hl L[j] (List.getElem_mem hj)
   unfold addF
   rw [readF_frame (0 + j) _ _ _ (by omega) hx.1 hx.2, Nat.zero_add]
   simp only
   rw [fget_map L j j (by omega), if_neg (Nat.lt_irrefl _)]
   simp only [Option.isSome_none, Bool.false_eq_true, if_false]
   unfold mapL
   rw [List.range_succ, List.map_append, List.map_cons, List.map_nil, List.getD_eq_getElem?_getD, List.getElem?_eq_getElem hj]; rfl
theorem more_map (L : List Fr) : ∀ (f n : Nat) (s : By), L.length ≤ n + 1 + f → moreV (mapL L L.length) f n s = moreD (L.drop (n + 1)) s
 | 0, n, s, h => by rw [List.drop_eq_nil_iff.2 (by omega)]; rfl
 | f + 1, n, s, h => by
   rw [moreV, fget_map L _ _ (Nat.le_refl _)]
   by_cases hlt : n + 1 < L.length
   · rw [if_pos hlt, List.getElem?_eq_getElem hlt, List.drop_eq_getElem_cons hlt, moreD]
     simp only
     rw [more_map L f (n + 1) _ (by omega)]
   · rw [if_neg hlt, List.drop_eq_nil_iff.2 (by omega)]; rfl
theorem item_map (L : List Fr) (hn : L.length ≤ 65536) (n : Nat) : itemV (mapL L L.length) n = itemD (L.drop n) := by
 unfold itemV
 rw [fget_map L _ _ (Nat.le_refl _)]
 by_cases hlt : n < L.length
 · rw [if_pos hlt, List.getElem?_eq_getElem hlt, List.drop_eq_getElem_cons hlt, itemD]
   simp only
   rw [more_map L (65536 - n) n _ (by omega)]
 · rw [if_neg hlt, List.drop_eq_nil_iff.2 (by omega)]; rfl
theorem scan_range (g : By → Option Pr) : ∀ (L : List Fr), ((List.range L.length).filterMap fun n => (itemD (L.drop n)).bind g) = (scanD L).filterMap g
 | [] => rfl
 | x :: L => by
   rw [List.length_cons, List.range_succ_eq_map, List.filterMap_cons, List.drop_zero, List.filterMap_map, scanD, List.filterMap_append]
   have ih := scan_range g L
   have e : (List.range L.length).filterMap ((fun n => (itemD ((x :: L).drop n)).bind g) ∘ Nat.succ) = (scanD L).filterMap g := by rw [← ih]; rfl
   rw [e]
   cases itemD (x :: L) with
   | none => simp
   | some t =>
     simp only [Option.bind_some, Option.toList_some, List.filterMap_cons, List.filterMap_nil]
     cases g t <;> simp
theorem sorted_map (L : List Fr) : sortedF (mapL L L.length) = List.range L.length := by
 have e : keysF (mapL L L.length) = List.range L.length := by unfold keysF mapL; rw [List.map_map]; exact List.map_id _
 unfold sortedF
 rw [e]
 exact List.mergeSort_of_pairwise (by
   have h : (List.range L.length).Pairwise (· < ·) := List.pairwise_lt_range
   exact h.imp (fun h => by simpa using Nat.le_of_lt h))
theorem salv_frames (h : By) (items : List By) (hh : h ≠ []) (hi : ∀ s ∈ items, s ≠ []) (hn : (framesL (h :: items)).length ≤ 65536) (x : Hd) (hx : firstV h = some x) :
   salvV (encF 0 (framesL (h :: items))) = some (x, items.filterMap pairV) := by
 have hl : ∀ x ∈ framesL (h :: items), 1 ≤ x.2.2.length ∧ x.2.2.length ≤ 56 := fun x hx => framesL_len hx
 have e : framesL (h :: items) = cutF h ++ framesL items := by simp [framesL]
 have e1 := encF_len (framesL (h :: items)) 0 (fun x hx => (hl x hx).2)
 have hd : (encF 0 (framesL (h :: items))).length / 64 = (framesL (h :: items)).length := by rw [e1]; omega
 have hM := frames_map _ hl hn (framesL (h :: items)).length (Nat.le_refl _)
 unfold salvV
 rw [hd, hM, item_map _ hn, List.drop_zero]
 have h0 : itemD (framesL (h :: items)) = some h := by rw [e]; exact item_cut h _ hh
 rw [h0]
 simp only [hx]
 refine congrArg (fun t => some (x, t)) ?_
 unfold pairsV
 rw [sorted_map]
 have hc : framesL (h :: items) = pieceF h 0 :: (((List.range (cntF h)).drop 1).map (pieceF h) ++ framesL items) := by rw [e, cut_cons h hh]; rfl
 have ht := scan_tail h (framesL items) _ 1 rfl (Nat.le_refl _)
 rw [scan_items items hi] at ht
 conv => rhs; rw [← ht, ← scan_range]
 have him : ∀ n, itemV (mapL (framesL (h :: items)) (framesL (h :: items)).length) n = itemD ((framesL (h :: items)).drop n) := item_map _ hn
 simp only [him]
 rw [hc, List.length_cons, List.range_succ_eq_map, List.filterMap_cons, if_pos rfl, List.filterMap_map]
 rfl
theorem itemA_ne (p : Pr) : itemA p ≠ [] := by
 unfold itemA textB
 intro h
 have := congrArg List.length h
 simp only [List.length_append, List.length_nil] at this
 have := num_pos p.1.length
 omega
theorem headA_ne (z : Rest) (org fmt len blk ap : Int) (n : Nat) : headA z org fmt len blk ap n ≠ [] := by
 unfold headA
 intro h
 have := congrArg List.length h
 simp only [List.length_append, List.length_nil, bitB, List.length_cons] at this
 omega
theorem filter_items : ∀ (l : List Pr), (∀ p ∈ l, prOk p = true) → (l.map itemA).filterMap pairV = l
 | [], _ => rfl
 | p :: l, h => by
   rw [List.map_cons, List.filterMap_cons, pair_item p (h p (by simp)), filter_items l (fun q hq => h q (by simp [hq]))]
theorem archP_iff {z : Rest} {org fmt len blk ap : Int} {l : List Pr} : archP z org fmt len blk ap l = true ↔ ((∀ x ∈ numsL z org fmt len blk ++ [ap], numV x = true) ∧ z.own.length ≤ 31 ∧ z.vol.length ≤ 31 ∧ l.length ≤ 1024) ∧ ∀ p ∈ l, prOk p = true := by
 unfold archP
 simp only [Bool.and_eq_true, List.all_eq_true, decide_eq_true_eq]
 constructor
 · rintro ⟨⟨h1, ⟨h2, h3⟩, h4⟩, h5⟩; exact ⟨⟨h1, h2, h3, h4⟩, h5⟩
 · rintro ⟨⟨h1, h2, h3, h4⟩, h5⟩; exact ⟨⟨h1, ⟨h2, h3⟩, h4⟩, h5⟩
/-- How long items are, and how many frames they make. -/
theorem headA_len {z : Rest} {org fmt len blk ap : Int} {n : Nat} (hv : z.vol.length ≤ 31) (ho : z.own.length ≤ 31) : (headA z org fmt len blk ap n).length ≤ 400 := by
 unfold headA
 have h1 := numsB_len (fourteen z org fmt len blk)
 have h2 := numsB_len [z.cls]
 have h3 := numsB_len [z.cre, z.exp]
 have h4 := numsB_len [ap, (n : Int)]
 have h5 := textB_len z.vol
 have h6 := textB_len z.own
 simp only [fourteen, List.length_cons, List.length_nil] at h1 h2 h3 h4
 simp only [List.length_append, bitB, List.length_cons, List.length_nil]
 simp only [fourteen]
 omega
theorem itemA_len {p : Pr} (h : prOk p = true) : (itemA p).length ≤ 1100 := by
 unfold prOk at h
 simp only [Bool.and_eq_true, decide_eq_true_eq] at h
 have h1 := textB_len p.1
 have h2 := textB_len p.2
 unfold itemA; rw [List.length_append]; omega
theorem cutF_lenD (s : By) : (cutF s).length = cntF s := by simp [cutF]
theorem framesL_count : ∀ (items : List By) (_k : Nat), (∀ s ∈ items, s.length ≤ 1200) → (framesL items).length ≤ 22 * items.length
 | [], _, _ => by simp [framesL]
 | s :: items, k, h => by
   have h1 := h s (by simp)
   have h2 := framesL_count items k (fun x hx => h x (by simp [hx]))
   have e : framesL (s :: items) = cutF s ++ framesL items := by simp [framesL]
   rw [e, List.length_append, cutF_lenD, List.length_cons]
   unfold cntF; omega
theorem salv_enc (z : Rest) (org fmt len blk ap : Int) (l : List Pr) (h : archP z org fmt len blk ap l = true) : salvV (encA z org fmt len blk ap l) = some (hdOf z org fmt len blk ap l.length, l) := by
 obtain ⟨⟨h1, h2, h3, h4⟩, h5⟩ := archP_iff.1 h
 have hc := framesL_count (itemsA z org fmt len blk ap l) 0 (fun s hs => by
   unfold itemsA at hs
   rw [List.mem_cons] at hs
   rcases hs with rfl | hs
   · have := headA_len (z := z) (org := org) (fmt := fmt) (len := len) (blk := blk) (ap := ap) (n := l.length) h3 h2; omega
   · rw [List.mem_map] at hs
     obtain ⟨p, hp, rfl⟩ := hs
     have := itemA_len (h5 p hp); omega)
 have hs := salv_frames (headA z org fmt len blk ap l.length) (l.map itemA) (headA_ne _ _ _ _ _ _ _) (fun s hs => by
   rw [List.mem_map] at hs
   obtain ⟨p, _, rfl⟩ := hs
   exact itemA_ne p) (by
   have e : (itemsA z org fmt len blk ap l).length = l.length + 1 := by simp [itemsA]
   rw [e] at hc
   unfold itemsA at hc; omega) _ (first_head z org fmt len blk ap l.length h1 h3 h2 h4)
 rw [filter_items l h5] at hs
 exact hs
end

section
open Go.RowKit Go.Sort
attribute [local go_sem] ByteArray.mk_append_mk

set_option maxRecDepth 100000 in
set_option maxHeartbeats 400000 in
theorem appendbool_any (s : By) (b : Bool) (w : World) (h : s.length ≤ 1000000) : Calls Tryz.prog 160 #[.string ⟨s.toArray⟩, .bool b] w fun e w' => e = .returned (.string ⟨(s ++ bitB b).toArray⟩) ∧ w = w' := by
 cases b with
 | true =>
   have HS := Lib.hid (show s ++ bitB true = s ++ [1] from rfl)
   generalize s ++ bitB true = r at HS ⊢
   go_enter Tryz.func160, Tryz.ntmps160
   go_wp2_with fail
   go_ret
   exact ⟨by rw [HS.out]; simp, rfl⟩
 | false =>
   have HS := Lib.hid (show s ++ bitB false = s ++ [0] from rfl)
   generalize s ++ bitB false = r at HS ⊢
   go_enter Tryz.func160, Tryz.ntmps160
   go_wp2_with fail
   go_ret
   exact ⟨by rw [HS.out]; simp, rfl⟩

theorem numsB_snoc : ∀ (l : List Int) (x : Int), numsB (l ++ [x]) = numsB l ++ num x.toNat
 | [], x => by simp [numsB]
 | y :: l, x => by rw [List.cons_append, numsB, numsB, numsB_snoc l x, List.append_assoc]
set_option maxRecDepth 100000 in
set_option maxHeartbeats 2000000 in
theorem itemput_any (w : World) (B : Nat) (a : Option Addr) (cap : Nat) (ps : List Addr) (ns : List Int) (c : Nat) (s : By) (hp : Ptrs w B a ps) (hB : B ≤ w.heap.size) (hl : ps.length = ns.length) (hl2 : ps.length ≤ 1000)
   (hc : w.heap[c]? = some (.cells #[.string ⟨s.toArray⟩] 9 (0, 0))) (hn : ∀ (i : Nat) (h : i < ps.length) (h2 : i < ns.length), w.cell? ps[i] = some (.int .i64 ns[i]) ∧ ps[i].block ≠ c) (hv : ∀ n ∈ ns, numV n = true) (hs : s.length ≤ 900000) :
   Calls Tryz.prog 159 #[.slice a ps.length cap, .pointer (some ⟨c, 0, none⟩)] w fun e w' => e = .returned (.tuple #[]) ∧ w'.heap[c]? = some (.cells #[.string ⟨(s ++ numsB ns).toArray⟩] 9 (0, 0)) ∧ Only [c] w w' := by
 have HP := Lib.hid hp
 have HC := Lib.hid hc
 have HN := Lib.hid hn
 have HV := Lib.hid hv
 have HL := Lib.hid hl
 clear hp hc hn hv hl
 go_enter Tryz.func159, Tryz.ntmps159
 go_wp2_with fail
 go_loopw [7] (fun k wr => ∃ j : Nat, j ≤ ps.length ∧ k = .int .i64 j ∧ wr.heap[c]? = some (.cells #[.string ⟨(s ++ numsB (ns.take j)).toArray⟩] 9 (0, 0)) ∧ Only [c] w wr) (fun k _ => ps.length - (intOf k).toNat)
 case atStart => exact ⟨0, by omega, rfl, by simpa [numsB] using HC.out, Only.refl _ _⟩
 case round =>
   obtain ⟨j, hj, rfl, hcr, ho⟩ := hrel
   have HCR := Lib.hid hcr
   have HO := Lib.hid ho
   clear hcr ho
   by_cases hlt : j < ps.length
   · have jI : (j : Int) < (ps.length : Int) := by omega
     have hln := HL.out
     have hjn : j < ns.length := by omega
     clear hln
     have hn1 := (HN.out j hlt hjn).1
     have hv1 := numV_iff.1 (HV.out _ (List.getElem_mem hjn))
     have htk : ns.take (j + 1) = ns.take j ++ [ns[j]] := List.take_succ_eq_append_getElem hjn
     have HT := Lib.hid (show s ++ numsB (ns.take (j + 1)) = (s ++ numsB (ns.take j)) ++ num ns[j].toNat by rw [htk, numsB_snoc, List.append_assoc])
     have hlen : (s ++ numsB (ns.take j)).length ≤ 1000000 := by
       have hln := HL.out
       have := numsB_len (ns.take j)
       rw [List.length_append]; simp only [List.length_take] at this; omega
     obtain ⟨b, off, rfl, hbb, hat⟩ := HP.out.get hlt
     have hxb := block_lt_of_cell hn1
     have hbc : b ≠ c := fun e => by
       subst e
       rw [cell_of_row _ _ _ _ _ _ HC.out] at hat
       obtain ⟨_, hx⟩ := Array.getElem?_eq_some_iff.1 hat
       rw [Array.getElem_singleton] at hx; cases hx
     have hnx := (HN.out j hlt hjn).2
     have ld := (HO.out.cell (p := ⟨b, off + j, none⟩) (Nat.lt_of_lt_of_le hbb hB) (by simpa using hbc)).trans hat
     have lx := (HO.out.cell (p := ps[j]) hxb (by simpa using hnx)).trans hn1
     have hxw := Nat.lt_of_lt_of_le hxb HO.out.size
     generalize ps[j] = x at ld lx hnx hxw
     generalize ns[j] = n at lx hv1 HT
     generalize s ++ numsB (ns.take j) = t at HT hlen HCR
     obtain ⟨n, rfl⟩ : ∃ k : Nat, n = (k : Int) := ⟨n.toNat, by omega⟩
     rw [Int.toNat_natCast] at HT
     have hcv : IntKind.u64.wrap (n : Int) = (n : Int) := by rw [IntKind.wrap_u64]; omega
     have HA := Lib.hid (fun W => append_number_any t n W hlen (by omega))
     have cc := cell_at (i := 0) (v := .string ⟨t.toArray⟩) HCR.out rfl
     clear hat hn1
     go_wp2_with fail
     have cd : wr.drew.cell? ⟨c, 0, none⟩ = some (.string ⟨t.toArray⟩) := cc
     have xd : wr.drew.cell? x = some (.int .i64 n) := lx
     go_region_law
      (go_simp
       refine (HA.out _).mono ?_
       rintro e w1 ⟨rfl, hb1⟩
       have hcr1 := heap_below hb1 (lt_of_block HCR.out) (show wr.drew.heap[c]? = _ from HCR.out)
       have hfr := free_at hcr1 0
       have cd2 := cell_at (i := 0) (v := .string ⟨t.toArray⟩) hcr1 rfl
       have xd2 := (hb1.cell (p := x) hxw).trans xd)
     all_goals
       have HC2 := Lib.hid (cell_row_any _ c 0 _ _ _ (.string ⟨(t ++ num n).toArray⟩) hcr1)
       have HO2 := Lib.hid ((HO.out.step_below (below_drew1.trans hb1)).setCell (p := ⟨c, 0, none⟩) (Or.inl (by simp)) (.string ⟨(t ++ num n).toArray⟩))
       clear hcr1 hfr cd2 xd2 hb1 cd xd cc lx ld
       go_wp2_with fail
       go_roundw
       case rel => exact ⟨j + 1, by omega, by go_num, by rw [HT.out]; exact HC2.out, HO2.out⟩
       case measure => simp [intOf]; omega
   · have jI : ¬ (j : Int) < (ps.length : Int) := by omega
     have hln := HL.out
     have ht : ns.take j = ns := List.take_of_length_le (by omega)
     rw [ht] at HCR
     clear ht hln
     go_wp2_with fail
     exact Go.Great.bodyPost_end0 rfl rfl ⟨rfl, HCR.out, HO.out⟩
end

section
open Go.RowKit Go.Sort
attribute [local go_sem] ByteArray.mk_append_mk
variable {z : Rest}

/-- What items holds while it builds its first text: the archive, the text, the description. -/
structure It (w W : World) (z : Rest) (org fmt len blk ap : Int) (A : Option Addr) (n C : Nat) (s : By) : Prop where
 con : W.heap[w.heap.size]? = some (.cells (conC z org fmt len blk ap A n C) 82 (0, 0))
 str : W.heap[w.heap.size + 1]? = some (.cells #[.string ⟨s.toArray⟩] 9 (0, 0))
 ds : W.heap[w.heap.size + 2]? = some (.cells (dsv z org fmt len blk) 23 (0, 0))
 bel : Below w.heap.size w W
theorem It.below {w W W' : World} {org fmt len blk ap : Int} {A : Option Addr} {n C : Nat} {s : By} (h : It w W z org fmt len blk ap A n C s) (hb : Below W.heap.size W W') : It w W' z org fmt len blk ap A n C s :=
 ⟨heap_below hb (lt_of_block h.con) h.con, heap_below hb (lt_of_block h.str) h.str, heap_below hb (lt_of_block h.ds) h.ds, h.bel.trans (hb.mono h.bel.size)⟩
theorem It.put {w W W' : World} {org fmt len blk ap : Int} {A : Option Addr} {n C : Nat} {s t : By} (h : It w W z org fmt len blk ap A n C s) (ht : W'.heap[w.heap.size + 1]? = some (.cells #[.string ⟨t.toArray⟩] 9 (0, 0))) (ho : Only [w.heap.size + 1] W W') : It w W' z org fmt len blk ap A n C t :=
 ⟨ho.heap h.con (by simp), ht, ho.heap h.ds (by simp), h.bel.trans (ho.below h.bel.size (by simp))⟩
theorem It.set {w W : World} {org fmt len blk ap : Int} {A : Option Addr} {n C : Nat} {s : By} (h : It w W z org fmt len blk ap A n C s) (t : By) : It w (W.setCell ⟨w.heap.size + 1, 0, none⟩ (.string ⟨t.toArray⟩)) z org fmt len blk ap A n C t :=
 h.put (cell_row_any _ _ _ _ _ _ _ h.str) ((Only.refl _ _).setCell (p := ⟨w.heap.size + 1, 0, none⟩) (Or.inl (by simp)) _)
theorem It.start (w : World) (org fmt len blk ap : Int) (A : Option Addr) (n C : Nat) : ∃ W, (storeDs ⟨w.heap.size + 1 + 1, 0, none⟩ (.agg (dsv z org fmt len blk))).run Tryz.prog (((w.alloc (.cells (conC z org fmt len blk ap A n C) 82)).alloc (.cells #[.string ⟨#[]⟩] 9)).alloc (.cells dsZ 23)) = .ok () W ∧ It w W z org fmt len blk ap A n C [] := by
 have hz0 := heap_alloc_new ((w.alloc (.cells (conC z org fmt len blk ap A n C) 82)).alloc (.cells #[.string ⟨#[]⟩] 9)) (.cells dsZ 23)
 rw [show ((w.alloc (.cells (conC z org fmt len blk ap A n C) 82)).alloc (.cells #[.string ⟨#[]⟩] 9)).heap.size = w.heap.size + 1 + 1 by simp] at hz0
 have hc0 := (halloc ((w.alloc (.cells (conC z org fmt len blk ap A n C) 82)).alloc (.cells #[.string ⟨#[]⟩] 9)) (.cells dsZ 23) (by simp; omega)).trans (heap_alloc2_old w (.cells (conC z org fmt len blk ap A n C) 82) (.cells #[.string ⟨#[]⟩] 9))
 have hs0 := (halloc ((w.alloc (.cells (conC z org fmt len blk ap A n C) 82)).alloc (.cells #[.string ⟨#[]⟩] 9)) (.cells dsZ 23) (by simp)).trans (heap_alloc2_new w (.cells (conC z org fmt len blk ap A n C) 82) (.cells #[.string ⟨#[]⟩] 9))
 refine ⟨_, storeDs_at hz0 rfl, (heap_setRow_other' _ _ (lt_of_block hc0) (by omega)).trans hc0, (heap_setRow_other' _ _ (lt_of_block hs0) (by omega)).trans hs0, setRow_heap _ _ _ _ _ _ hz0, below_setRow ((((Below.refl _ _).alloc (Nat.le_refl _) _).alloc (by simp) _).alloc (by simp; omega) _) (by omega) _⟩

/-- The numbers of a description, at their places. -/
theorem four_at {W : World} {g c : Nat} {org fmt len blk : Int} (h : W.heap[g]? = some (.cells (dsv z org fmt len blk) 23 (0, 0))) (hgc : g ≠ c) : ∀ (i : Nat) (_h1 : i < (fieldA g).length) (h2 : i < (fourteen z org fmt len blk).length), W.cell? (fieldA g)[i] = some (.int .i64 (fourteen z org fmt len blk)[i]) ∧ (fieldA g)[i].block ≠ c := by
 intro i h1 _
 have h14 : i < 14 := h1
 match i, h14 with
 | 0, _ => exact ⟨cell_at h rfl, hgc⟩ | 1, _ => exact ⟨cell_at h rfl, hgc⟩ | 2, _ => exact ⟨cell_at h rfl, hgc⟩ | 3, _ => exact ⟨cell_at h rfl, hgc⟩ | 4, _ => exact ⟨cell_at h rfl, hgc⟩
 | 5, _ => exact ⟨cell_at h rfl, hgc⟩ | 6, _ => exact ⟨cell_at h rfl, hgc⟩ | 7, _ => exact ⟨cell_at h rfl, hgc⟩ | 8, _ => exact ⟨cell_at h rfl, hgc⟩ | 9, _ => exact ⟨cell_at h rfl, hgc⟩
 | 10, _ => exact ⟨cell_at h rfl, hgc⟩ | 11, _ => exact ⟨cell_at h rfl, hgc⟩ | 12, _ => exact ⟨cell_at h rfl, hgc⟩ | 13, _ => exact ⟨cell_at h rfl, hgc⟩
/-- A literal of pointers in a block of its own. -/
theorem ptrs_lit {W : World} {k : Nat} (hk : k = W.heap.size) (l : List Addr) : Ptrs (W.alloc (.cells (ptrsV l).toArray 135)) (W.alloc (.cells (ptrsV l).toArray 135)).heap.size (some ⟨k, 0, none⟩) l := by
 subst hk
 exact ⟨fun _ => ⟨W.heap.size, 0, rfl, by simp, fun i hi => by
   rw [cell_of_row _ _ _ _ _ _ (heap_alloc_new _ _)]
   simp [ptrsV, hi]⟩⟩
theorem one_at {W : World} {x : Addr} {n : Int} {c : Nat} (h : W.cell? x = some (.int .i64 n)) (hc : x.block ≠ c) : ∀ (i : Nat) (_h1 : i < [x].length) (h2 : i < [n].length), W.cell? [x][i] = some (.int .i64 [n][i]) ∧ [x][i].block ≠ c := by
 intro i h1 _
 have : i = 0 := by simpa using h1
 subst this
 exact ⟨h, hc⟩
theorem two_at {W : World} {x y : Addr} {n m : Int} {c : Nat} (h : W.cell? x = some (.int .i64 n)) (hc : x.block ≠ c) (h' : W.cell? y = some (.int .i64 m)) (hc' : y.block ≠ c) : ∀ (i : Nat) (_h1 : i < [x, y].length) (h2 : i < [n, m].length), W.cell? [x, y][i] = some (.int .i64 [n, m][i]) ∧ [x, y][i].block ≠ c := by
 intro i h1 _
 have h2 : i < 2 := h1
 match i, h2 with
 | 0, _ => exact ⟨h, hc⟩
 | 1, _ => exact ⟨h', hc'⟩

/-- One step of the first text: numbers are appended. -/
theorem It.nums {w W : World} {org fmt len blk ap : Int} {A : Option Addr} {n C : Nat} {s : By} (h : It w W z org fmt len blk ap A n C s) {a : Option Addr} {cap : Nat} {ps : List Addr} {ns : List Int} (hp : Ptrs W W.heap.size a ps) (hl : ps.length = ns.length) (hl2 : ps.length ≤ 1000)
   (hn : ∀ (i : Nat) (h : i < ps.length) (h2 : i < ns.length), W.cell? ps[i] = some (.int .i64 ns[i]) ∧ ps[i].block ≠ w.heap.size + 1) (hv : ∀ n ∈ ns, numV n = true) (hs : s.length ≤ 900000) :
   Calls Tryz.prog 159 #[.slice a ps.length cap, .pointer (some ⟨w.heap.size + 1, 0, none⟩)] W fun e W' => e = .returned (.tuple #[]) ∧ It w W' z org fmt len blk ap A n C (s ++ numsB ns) ∧ Only [w.heap.size + 1] W W' :=
 (itemput_any W W.heap.size a cap ps ns _ s hp (Nat.le_refl _) hl hl2 h.str hn hv hs).mono fun _ _ ⟨he, hc, ho⟩ => ⟨he, h.put hc ho, ho⟩

section
attribute [local go_sem ↓] loadDs_down storeDs_down
set_option maxRecDepth 100000 in
set_option maxHeartbeats 8000000 in
theorem items_any (w : World) (B : Nat) (a : Option Addr) (cap : Nat) (l : List Pr) (org fmt len blk ap : Int) (h : Prs w B a l) (hB : B ≤ w.heap.size) (hv : archP z org fmt len blk ap l = true) :
   Calls Tryz.prog 102 #[.agg (conC z org fmt len blk ap a l.length cap)] w fun e w' => ∃ v, e = .returned v ∧ w'.ownsRow w.heap.size 9 1 v (itemsA z org fmt len blk ap l).length ((itemsA z org fmt len blk ap l).map sv) ∧ Below w.heap.size w w' := by
 have hmf : ∀ (fn : Fn) (first cap : Array Value) (w : World), (Instr.makeFunc fn first cap).run Tryz.prog w = .ok (.func fn first cap) w := fun _ _ _ _ => rfl
 obtain ⟨i0, hi0, hz0, hz1, hz2⟩ := info_parts info9
 obtain ⟨⟨v1, v2, v3, v4⟩, v5⟩ := archP_iff.1 hv
 have HN := Lib.hid v1
 have HV := Lib.hid v5
 have HS := Lib.hid h
 have HVO := Lib.hid v3
 have HOW := Lib.hid v2
 have HL := Lib.hid v4
 obtain ⟨hd, hhd⟩ : ∃ hd, hd = headA z org fmt len blk ap l.length := ⟨_, rfl⟩
 have HR := Lib.hid (show itemsA z org fmt len blk ap l = hd :: l.map itemA by rw [hhd]; rfl)
 have HHD := Lib.hid hhd
 clear hhd
 generalize itemsA z org fmt len blk ap l = R at HR ⊢
 have ld := loadDs_con (z := z) (heap_alloc2_old w (.cells (conC z org fmt len blk ap a l.length cap) 82) (.cells #[.string ⟨#[]⟩] 9))
 obtain ⟨W1, st, hT⟩ := It.start (z := z) w org fmt len blk ap a l.length cap
 have HT := Lib.hid hT
 clear hT h v1 v2 v3 v5 hv
 go_enter Tryz.func102, Tryz.ntmps102
 go_wp2_with fail
 clear ld st
 refine (fields_any (w.heap.size + 1 + 1) W1).mono ?_
 rintro e w2 ⟨v2, rfl, ho2, hb2⟩
 obtain ⟨pa, pc, rfl, hp2⟩ := ptrs_of_row (l := fieldA (w.heap.size + 1 + 1)) ho2 rfl
 have HI2 := Lib.hid (HT.out.below hb2)
 clear ho2 hb2
 have H2 := Lib.hid (HI2.out.nums (cap := pc) hp2 rfl (by simp [fieldA]) (four_at HI2.out.ds (by omega)) (fun n hn => HN.out n (by simp only [fourteen, numsL, List.cons_append, List.nil_append, List.mem_cons, List.not_mem_nil, or_false] at hn ⊢; rcases hn with rfl | rfl | rfl | rfl | rfl | rfl | rfl | rfl | rfl | rfl | rfl | rfl | rfl | rfl <;> simp)) (by simp))
 clear hp2
 go_wp2_with fail
 refine H2.out.mono ?_
 rintro e w3 ⟨rfl, hi3, _⟩
 obtain ⟨s1, hs1⟩ : ∃ s, s = ([] : By) ++ numsB (fourteen z org fmt len blk) := ⟨_, rfl⟩
 rw [← hs1] at hi3
 have n1 : s1.length ≤ 140 := by
   have := numsB_len (fourteen z org fmt len blk)
   rw [hs1, List.nil_append]
   simp only [fourteen, List.length_cons, List.length_nil] at this ⊢; omega
 have HI3 := Lib.hid hi3
 have HS1 := Lib.hid hs1
 clear hi3 hs1 H2
 -- the truth value, the class
 have cS := cell_at (i := 0) HI3.out.str rfl
 have cB := cell_at (i := 14) (v := .bool z.uniq) HI3.out.ds rfl
 have fS := free_at HI3.out.str 0
 have HAB := Lib.hid (appendbool_any s1 z.uniq w3 (by omega))
 obtain ⟨s2, hs2⟩ : ∃ s, s = s1 ++ bitB z.uniq := ⟨_, rfl⟩
 have n2 : s2.length ≤ 141 := by rw [hs2, List.length_append, show (bitB z.uniq).length = 1 from rfl]; omega
 rw [← hs2] at HAB
 have HS2 := Lib.hid hs2
 clear hs2
 have HI4 := Lib.hid (HI3.out.set s2)
 have HI5 := Lib.hid (HI4.out.below ((Below.refl _ _).alloc (Nat.le_refl _) (.cells (ptrsV [⟨w.heap.size + 2, 15, none⟩]).toArray 135)))
 have H5 := Lib.hid (HI5.out.nums (cap := 1) (ps := [⟨w.heap.size + 2, 15, none⟩]) (ns := [z.cls]) (ptrs_lit (k := w3.heap.size) (by simp) _) rfl (by simp) (one_at (cell_at (i := 15) HI5.out.ds rfl) (by simp)) (fun n hn => HN.out n (by simp only [List.mem_singleton] at hn; subst hn; simp [numsL])) (by omega))
 go_wp2_with fail
 refine HAB.out.mono ?_
 rintro e _ ⟨rfl, rfl⟩
 go_wp2_with fail
 refine H5.out.mono ?_
 rintro e w5 ⟨rfl, hi5, _⟩
 obtain ⟨s3, hs3⟩ : ∃ s, s = s2 ++ numsB [z.cls] := ⟨_, rfl⟩
 rw [← hs3] at hi5
 have n3 : s3.length ≤ 151 := by
   have := numsB_len [z.cls]
   rw [hs3, List.length_append]
   simp only [List.length_cons, List.length_nil] at this; omega
 have HI6 := Lib.hid hi5
 have HS3 := Lib.hid hs3
 clear hi5 hs3 H5 HI5 HI4 HI3 cS cB fS HAB
 -- the texts
 have tv := textB_len z.vol
 have tw := textB_len z.own
 have hvo := HVO.out
 have how := HOW.out
 have HT1 := Lib.hid (fun W => append_text_any s3 z.vol W (by omega) (by omega))
 obtain ⟨s4, hs4⟩ : ∃ s, s = s3 ++ textB z.vol := ⟨_, rfl⟩
 have n4 : s4.length ≤ 200 := by rw [hs4, List.length_append]; omega
 rw [← hs4] at HT1
 have HT2 := Lib.hid (fun W => append_text_any s4 z.own W (by omega) (by omega))
 obtain ⟨s5, hs5⟩ : ∃ s, s = s4 ++ textB z.own := ⟨_, rfl⟩
 have n5 : s5.length ≤ 250 := by rw [hs5, List.length_append]; omega
 rw [← hs5] at HT2
 have HS4 := Lib.hid hs4
 have HS5 := Lib.hid hs5
 clear hs4 hs5 tv tw hvo how
 have HD6 := Lib.hid (HI6.out.below below_drew1)
 have cS := cell_at (i := 0) HD6.out.str rfl
 have cV := cell_at (i := 16) (v := .string ⟨z.vol.toArray⟩) HD6.out.ds rfl
 have cO := cell_at (i := 17) (v := .string ⟨z.own.toArray⟩) HD6.out.ds rfl
 go_wp2_with fail
 refine (fun (key : ∀ W7, It w W7 z org fmt len blk ap a l.length cap s3 → (?G : World → Prop) W7) => ?main) ?key
 case main =>
  go_region_law
   (first
     | (go_simp
        with_reducible refine (HT1.out _).mono ?_
        rintro e w6 ⟨rfl, hb6⟩
        have HD7 := Lib.hid (HD6.out.below hb6)
        have cO7 := cell_at (i := 17) (v := .string ⟨z.own.toArray⟩) HD7.out.ds rfl
        clear hb6)
     | (go_simp
        with_reducible refine (HT2.out _).mono ?_
        rintro e w7 ⟨rfl, hb7⟩
        have HD8 := Lib.hid (HD7.out.below hb7)
        have f8 := free_at HD8.out.str 0
        have c8 := cell_at (i := 0) HD8.out.str rfl
        clear hb7))
  all_goals exact key _ HD8.out
 intro w7 hi7
 clear cS cV cO HD6 HI6 HT1 HT2
 have HI8 := Lib.hid (hi7.set s5)
 clear hi7
 generalize w7.setCell ⟨w.heap.size + 1, 0, none⟩ (.string ⟨s5.toArray⟩) = w8 at HI8 ⊢
 -- two numbers
 have HI9 := Lib.hid (HI8.out.below ((Below.refl _ _).alloc (Nat.le_refl _) (.cells (ptrsV [⟨w.heap.size + 2, 18, none⟩, ⟨w.heap.size + 2, 19, none⟩]).toArray 135)))
 have H9 := Lib.hid (HI9.out.nums (cap := 2) (ps := [⟨w.heap.size + 2, 18, none⟩, ⟨w.heap.size + 2, 19, none⟩]) (ns := [z.cre, z.exp]) (ptrs_lit rfl _) rfl (by simp) (two_at (cell_at (i := 18) HI9.out.ds rfl) (by simp) (cell_at (i := 19) HI9.out.ds rfl) (by simp))
   (fun n hn => HN.out n (by simp only [List.mem_cons, List.not_mem_nil, or_false] at hn; rcases hn with rfl | rfl <;> simp [numsL])) (by omega))
 go_wp2_with fail
 refine H9.out.mono ?_
 rintro e w10 ⟨rfl, hi10, _⟩
 obtain ⟨s6, hs6⟩ : ∃ s, s = s5 ++ numsB [z.cre, z.exp] := ⟨_, rfl⟩
 rw [← hs6] at hi10
 have n6 : s6.length ≤ 270 := by
   have := numsB_len [z.cre, z.exp]
   rw [hs6, List.length_append]
   simp only [List.length_cons, List.length_nil] at this; omega
 have HI10 := Lib.hid hi10
 have HS6 := Lib.hid hs6
 clear hi10 hs6 H9 HI9 HI8
 -- the truth value
 have cS := cell_at (i := 0) HI10.out.str rfl
 have cB := cell_at (i := 20) (v := .bool z.arch) HI10.out.ds rfl
 have fS := free_at HI10.out.str 0
 have HAB := Lib.hid (appendbool_any s6 z.arch w10 (by omega))
 obtain ⟨s7, hs7⟩ : ∃ s, s = s6 ++ bitB z.arch := ⟨_, rfl⟩
 have n7 : s7.length ≤ 271 := by rw [hs7, List.length_append, show (bitB z.arch).length = 1 from rfl]; omega
 rw [← hs7] at HAB
 have HS7 := Lib.hid hs7
 clear hs7
 have HI11 := Lib.hid (HI10.out.set s7)
 have hsz11 : (w10.setCell ⟨w.heap.size + 1, 0, none⟩ (.string ⟨s7.toArray⟩)).heap.size = w10.heap.size := by simp [World.setCell]
 have cP := cell_at (i := 22) (v := .slice a l.length cap) HI11.out.con rfl
 have HI12 := Lib.hid (HI11.out.below ((Below.refl _ _).alloc (Nat.le_refl _) (.cells #[.int .i64 l.length] 3)))
 have hk12 := heap_alloc_new (w10.setCell ⟨w.heap.size + 1, 0, none⟩ (.string ⟨s7.toArray⟩)) (.cells #[.int .i64 l.length] 3)
 rw [hsz11] at hk12
 have HK12 := Lib.hid hk12
 have hbs := HI10.out.bel.size
 go_wp2_with fail
 refine HAB.out.mono ?_
 rintro e _ ⟨rfl, rfl⟩
 have HI13 := Lib.hid (HI12.out.below ((Below.refl _ _).alloc (Nat.le_refl _) (.cells (ptrsV [⟨w.heap.size, 21, none⟩, ⟨w10.heap.size, 0, none⟩]).toArray 135)))
 have hk13 := (halloc ((w10.setCell ⟨w.heap.size + 1, 0, none⟩ (.string ⟨s7.toArray⟩)).alloc (.cells #[.int .i64 l.length] 3)) (.cells (ptrsV [⟨w.heap.size, 21, none⟩, ⟨w10.heap.size, 0, none⟩]).toArray 135) (lt_of_block hk12)).trans hk12
 have hbk : w10.heap.size ≠ w.heap.size + 1 := by have := lt_of_block HI10.out.str; omega
 have H13 := Lib.hid (HI13.out.nums (cap := 2) (ps := [⟨w.heap.size, 21, none⟩, ⟨w10.heap.size, 0, none⟩]) (ns := [ap, (l.length : Int)]) (ptrs_lit (k := w10.heap.size + 1) (by simp) _) rfl (by simp) (two_at (cell_at (i := 21) HI13.out.con rfl) (by simp) (cell_at (i := 0) hk13 rfl) hbk)
   (fun n hn => by
     simp only [List.mem_cons, List.not_mem_nil, or_false] at hn
     rcases hn with rfl | rfl
     · exact HN.out _ (by simp)
     · exact numV_iff.2 ⟨by omega, by omega⟩) (by omega))
 clear hk12 hk13
 go_wp2_with fail
 refine H13.out.mono ?_
 rintro e w14 ⟨rfl, hi14, _⟩
 obtain ⟨s8, hs8⟩ : ∃ s, s = s7 ++ numsB [ap, (l.length : Int)] := ⟨_, rfl⟩
 rw [← hs8] at hi14
 have HI14 := Lib.hid hi14
 have HS8 := Lib.hid (show s8 = hd by
   rw [HHD.out, hs8, HS7.out, HS6.out, HS5.out, HS4.out, HS3.out, HS2.out, HS1.out]
   unfold headA
   simp only [List.nil_append, List.append_assoc])
 clear hi14 hs8 H13 HI13 HI12 HI11 HI10 cS cB fS HAB hsz11 cP HS1 HS2 HS3 HS4 HS5 HS6 HS7 n1 n2 n3 n4 n5 n6 n7 hbk HK12 hbs HI2
 have cS := cell_at (i := 0) HI14.out.str rfl
 have cP := cell_at (i := 22) (v := .slice a l.length cap) ((halloc w14 (.cells #[.string ⟨s8.toArray⟩] 9) (lt_of_block HI14.out.con)).trans HI14.out.con) rfl
 have HB14 := Lib.hid (HI14.out.bel.trans (((Below.refl _ _).alloc (Nat.le_refl _) (.cells #[.string ⟨s8.toArray⟩] 9)).mono HI14.out.bel.size))
 have HO14 := Lib.hid (World.ownsRow_lit (base := w.heap.size) (e := 9) (size := 1) w14 #[.string ⟨s8.toArray⟩] 1 HI14.out.bel.size (by simp [maxLen]) rfl)
 have HH := Lib.hid (show [Value.string ⟨s8.toArray⟩] = (hd :: (l.take 0).map itemA).map sv by rw [← HS8.out]; rfl)
 clear HS8 HHD
 go_wp2_with fail
 go_loopw [52, 7] (fun k v wr => ∃ j : Nat, j ≤ l.length ∧ k = .int .i64 j ∧ wr.ownsRow w.heap.size 9 1 v (j + 1) ((hd :: (l.take j).map itemA).map sv) ∧ Below w.heap.size w wr) (fun k _ _ => l.length - (intOf k).toNat)
 case atStart => exact ⟨0, by omega, rfl, by rw [← HH.out]; exact HO14.out, HB14.out⟩
 case round =>
   obtain ⟨j, hj, rfl, ho, hb⟩ := hrel
   have HO := Lib.hid ho
   have HB := Lib.hid hb
   clear ho hb HB14 HO14 HI14 HH cS cP
   by_cases hlt : j < l.length
   · have jI : (j : Int) < (l.length : Int) := by omega
     obtain ⟨b, off, rfl, hbb, hc1, hc2⟩ := HS.out.get hlt
     have hr1 : wr.cell? ⟨b, off + j * 2, none⟩ = some (.string ⟨l[j].1.toArray⟩) := ((HB.out.mono hB).cell (p := ⟨b, off + j * 2, none⟩) hbb).trans hc1
     have hr2 : wr.cell? ⟨b, off + j * 2 + 1, none⟩ = some (.string ⟨l[j].2.toArray⟩) := ((HB.out.mono hB).cell (p := ⟨b, off + j * 2 + 1, none⟩) hbb).trans hc2
     have hok := HV.out _ (List.getElem_mem hlt)
     have HT := Lib.hid (show (hd :: (l.take (j + 1)).map itemA).map sv = (hd :: (l.take j).map itemA).map sv ++ [sv (itemA l[j])] by
       rw [List.take_succ_eq_append_getElem hlt]
       simp only [List.map_append, List.map_cons, List.map_nil, List.cons_append])
     generalize l[j] = p at hr1 hr2 hok HT
     clear hc1 hc2
     obtain ⟨k, r⟩ := p
     unfold prOk at hok
     simp only [Bool.and_eq_true, decide_eq_true_eq] at hr1 hr2 hok HT
     obtain ⟨hk1, hk2⟩ := hok
     have q1 := textB_len k
     have q2 := textB_len r
     have HT1 := Lib.hid (fun W => append_text_any [] k W (by simp) (by omega))
     have e0 : ([] : By) ++ textB k = textB k := rfl
     rw [e0] at HT1
     have HT2 := Lib.hid (fun W => append_text_any (textB k) r W (by omega) (by omega))
     have e1 : textB k ++ textB r = itemA (k, r) := rfl
     rw [e1] at HT2
     have q3 : (itemA (k, r)).length ≤ 1100 := by rw [← e1, List.length_append]; omega
     clear e0 e1 q1 q2
     generalize textB k = t1 at HT1 HT2
     generalize itemA (k, r) = t2 at HT HT2 q3
     obtain ⟨W2, hW2⟩ : ∃ W2, W2 = wr.alloc (.cells #[.string ⟨k.toArray⟩, .string ⟨r.toArray⟩] 46) := ⟨_, rfl⟩
     have HB2 := Lib.hid (show Below wr.heap.size wr W2 by rw [hW2]; exact box_below wr _ _)
     have hp2 : W2.heap[wr.heap.size]? = some (.cells #[.string ⟨k.toArray⟩, .string ⟨r.toArray⟩] 46 (0, 0)) := by rw [hW2]; exact heap_alloc_new wr _
     have HP2 := Lib.hid (show W2.drew.heap[wr.heap.size]? = _ from hp2)
     have x0 := cell_at (i := 0) (v := .string ⟨k.toArray⟩) HP2.out rfl
     have x1 := cell_at (i := 1) (v := .string ⟨r.toArray⟩) HP2.out rfl
     have HBD := Lib.hid (HB.out.trans ((HB2.out.trans (below_drew1.mono HB2.out.size)).mono HB.out.size))
     have HOD := Lib.hid (own_below HO.out (HB2.out.trans (below_drew1.mono HB2.out.size)))
     clear hp2
     go_wp2_with fail
     rw [← hW2]
     clear hW2 HO hr1 hr2
     refine (fun (key : ∀ v5 W5 (k : Nat), W5.ownsRow w.heap.size 9 1 v5 (j + 1 + 1) ((hd :: (l.take j).map itemA).map sv ++ [sv t2]) → Below w.heap.size w W5 → (?G2 : Value → World → Nat → Prop) v5 W5 k) => ?main2) ?key2
     case main2 =>
      go_region_law
       (first
         | (go_simp
            with_reducible refine (HT2.out _).mono ?_
            rintro e w4 ⟨rfl, hb4⟩
            have HO4 := Lib.hid (own_below HO3.out hb4)
            have HB4 := Lib.hid (HB3.out.trans (hb4.mono HB3.out.size))
            clear hb4)
         | (go_simp
            refine (HT1.out _).mono ?_
            rintro e w3 ⟨rfl, hb3⟩
            have HO3 := Lib.hid (own_below HOD.out hb3)
            have HB3 := Lib.hid (HBD.out.trans (hb3.mono HBD.out.size))
            have x13 := cell_at (i := 1) (v := .string ⟨r.toArray⟩) (heap_below hb3 (lt_of_block HP2.out) HP2.out) rfl
            clear hb3)
         | (refine step_append_row w.heap.size 9 i0 (.string ByteArray.empty) 1 16 hi0 hz0 hz1 hz2 rfl (by decide) (by decide) rfl (.tmp 56) (.tmp 63) 83 rfl Tryz.underlying83 _ rfl _ _ (HO4.out.alloc _) _ 1 1 rfl [sv t2] rfl ?src ?one ?small ?base ?_
            case src => exact Or.inl ⟨_, rfl, news_at (heap_alloc_new _ _)⟩
            case one => exact one_sv [t2]
            case small => omega
            case base => have := HB4.out.size; simp; omega
            intro v5 w5 ho5 hg5
            have HB5 := Lib.hid ((HB4.out.alloc HB4.out.size (.cells #[.string ⟨t2.toArray⟩] 9)).grown hg5 (HB4.out.alloc HB4.out.size _).size (fun k hk => row_own HO4.out hk))))
      all_goals (generalize w4.heap.size = k4; exact key _ _ k4 ho5 HB5.out)
     intro v5 w5 k5 ho5 hb5
     rw [← HT.out] at ho5
     have HO5 := Lib.hid ho5
     have HB5 := Lib.hid hb5
     clear ho5 hb5 x0 x1 HP2 HBD HOD HB2 HT1 HT2
     go_wp2_with fail
     go_roundw
     case rel => exact ⟨j + 1, by omega, by go_num, HO5.out, HB5.out⟩
     case measure => simp [intOf]; omega
   · have jI : ¬ (j : Int) < (l.length : Int) := by omega
     have HJ := Lib.hid (show hd :: (l.take j).map itemA = R by rw [List.take_of_length_le (by omega), HR.out])
     have HK := Lib.hid (show j + 1 = R.length by rw [HR.out]; simp; omega)
     rw [HJ.out, HK.out] at HO
     go_wp2_with fail
     go_ret
     exact ⟨_, rfl, HO.out, HB.out⟩
end
end

end Go.Proofs.YtckpepfkfjdnhaaGreatDoor

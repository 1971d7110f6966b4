/-
  Plain: numbers as keys, pairs, the sizes of intervals. No walk.
-/
import Derived.Test.YtckpepfkfjdnhaaGreatDoorQA
import Derived.Sort.Walk0
namespace Go.Proofs.YtckpepfkfjdnhaaGreatDoor
open Go.RowKit Go.Sort

/-- A pair: a key and a record. -/
abbrev Pr := By × By

/-- The last i bytes of a number, the greatest first. -/
def tailB : Nat → Nat → By
 | 0, _ => []
 | i + 1, n => tailB i (n / 256) ++ [b8 (n % 256)]
def slotB (n : Nat) : By := tailB 8 n
theorem tailB_len : ∀ i n, (tailB i n).length = i
 | 0, _ => rfl
 | i + 1, n => by simp [tailB, tailB_len i]
theorem slot_len (n : Nat) : (slotB n).length = 8 := tailB_len 8 n
/-- The number of bytes. -/
def valB (l : By) : Nat := l.foldl (fun a c => a * 256 + c.toNat) 0
theorem valB_snoc (l : By) (c : UInt8) : valB (l ++ [c]) = valB l * 256 + c.toNat := by simp [valB]
/-- The number that a key is. -/
def numB (k : By) : Option Nat := if k.length = 8 ∧ valB k ≤ 1099511627776 then some (valB k) else none
/-- How many of the first lengths are x. -/
def headN (x : Nat) : List Nat → Nat
 | [] => 0
 | y :: l => if y = x then headN x l + 1 else 0
theorem headN_le (x : Nat) : ∀ l, headN x l ≤ l.length
 | [] => Nat.le_refl _
 | y :: l => by unfold headN; have := headN_le x l; split <;> simp <;> omega
/-- The bytes of records with some lengths and of their fields. -/
def sizeF : Nat → List Nat → Nat
 | 0, _ => 0
 | _ + 1, [] => 0
 | f + 1, x :: l => (headN x l + 1) * x + 3 * min (headN x l + 1) 2 + sizeF f (l.drop (headN x l))
def sizeP (l : List Nat) : Nat := 4 + sizeF l.length l
/-- The bytes of the fields alone. -/
def fieldF : Nat → List Nat → Nat
 | 0, _ => 0
 | _ + 1, [] => 0
 | f + 1, x :: l => fieldF f (l.drop (headN x l)) + 3 * min (headN x l + 1) 2
theorem headN_take (x : Nat) : ∀ l, l.take (headN x l) = List.replicate (headN x l) x
 | [] => rfl
 | y :: l => by
   unfold headN
   split
   · rename_i h; subst h; rw [List.take_succ_cons, List.replicate_succ, headN_take y l]
   · rfl
theorem headN_sum (x : Nat) (l : List Nat) : l.sum = headN x l * x + (l.drop (headN x l)).sum := by
 conv => lhs; rw [← List.take_append_drop (headN x l) l, List.sum_append, headN_take]
 congr 1
 induction headN x l with
 | zero => simp
 | succ n ih => rw [List.replicate_succ, List.sum_cons, ih, Nat.add_mul]; omega
theorem size_field : ∀ f l, l.length ≤ f → sizeF f l = fieldF f l + l.sum
 | 0, l, h => by
   have : l = [] := List.length_eq_zero_iff.1 (by omega)
   subst this; rfl
 | f + 1, [], _ => rfl
 | f + 1, x :: l, h => by
   have h1 : l.length ≤ f := by simpa using h
   rw [sizeF, fieldF, size_field f (l.drop (headN x l)) (by rw [List.length_drop]; omega), List.sum_cons, headN_sum x l, Nat.add_mul]
   omega
theorem fieldF_le : ∀ f l, fieldF f l ≤ 6 * f
 | 0, _ => by simp [fieldF]
 | f + 1, [] => by simp [fieldF]
 | f + 1, x :: l => by rw [fieldF]; have := fieldF_le f (l.drop (headN x l)); omega
theorem size_ge (l : List Nat) (h : l ≠ []) : l.sum + 7 ≤ sizeP l := by
 unfold sizeP
 rw [size_field _ _ (Nat.le_refl _)]
 match l, h with
 | x :: l, _ => rw [List.length_cons, fieldF]; omega
/-- More fuel changes nothing. -/
theorem sizeF_fuel : ∀ f g l, l.length ≤ f → l.length ≤ g → sizeF f l = sizeF g l
 | 0, g, l, h, _ => by
   have : l = [] := List.length_eq_zero_iff.1 (by omega)
   subst this; cases g <;> rfl
 | f + 1, 0, l, _, h => by
   have : l = [] := List.length_eq_zero_iff.1 (by omega)
   subst this; rfl
 | f + 1, g + 1, [], _, _ => rfl
 | f + 1, g + 1, x :: l, h, h2 => by
   simp only [List.length_cons] at h h2
   rw [sizeF, sizeF, sizeF_fuel f g _ (by rw [List.length_drop]; omega) (by rw [List.length_drop]; omega)]

def isSizeP (iv : Int) : Bool := decide (iv = 128) || decide (iv = 256) || decide (iv = 512)
def allowP (l : List By) : Bool := l.all fun r => decide (1 ≤ r.length) && decide (r.length ≤ 200)
/-- Whether records fit. -/
def fitsP (iv : Int) (l : List By) : Bool := isSizeP iv && allowP l && decide ((sizeP (l.map List.length) : Int) ≤ iv)

/-- Where the next record of an entry-sequenced data set may begin. -/
structure En where
 page : Nat
 on : List By
def En.used (x : En) : Nat := (x.on.map List.length).sum
def nextE (iv : Nat) (x : En) (r : By) : By × En :=
 if 0 < x.page ∧ fitsP iv (x.on ++ [r]) = true then (slotB (x.page * iv + x.used), ⟨x.page, x.on ++ [r]⟩) else (slotB ((x.page + 1) * iv), ⟨x.page + 1, [r]⟩)
def behindE (iv : Nat) (l : List Pr) : En := l.foldl (fun x p => (nextE iv x p.2).2) ⟨0, []⟩
theorem behind_snoc (iv : Nat) (l : List Pr) (p : Pr) : behindE iv (l ++ [p]) = (nextE iv (behindE iv l) p.2).2 := by simp [behindE]
theorem snoc_ind {α : Type} {P : List α → Prop} (h0 : P []) (hs : ∀ l x, P l → P (l ++ [x])) (l : List α) : P l := by
 have h : ∀ m : List α, P m.reverse := by
   intro m
   induction m with
   | nil => exact h0
   | cons x m ih => rw [List.reverse_cons]; exact hs _ _ ih
 have := h l.reverse
 rwa [List.reverse_reverse] at this
theorem behind_page (iv : Nat) : ∀ l : List Pr, (behindE iv l).page ≤ l.length := by
 refine snoc_ind (Nat.le_refl 0) fun l p ih => ?_
 rw [behind_snoc, nextE, List.length_append]
 split <;> simp <;> omega
/-- The number that the reference reads from a key. -/
def numN (k : By) : Nat := (numB k).getD 0
/-- The addresses of pairs are those that they got one behind the other. -/
def Laid (iv : Nat) (l : List Pr) : Prop := ∀ i (h : i < l.length), l[i].1 = (nextE iv (behindE iv (l.take i)) l[i].2).1
theorem Laid.take {iv : Nat} {l : List Pr} (h : Laid iv l) (i : Nat) : Laid iv (l.take i) := by
 intro j hj
 have hj' : j < l.length := by rw [List.length_take] at hj; omega
 have := h j hj'
 rw [List.getElem_take, List.take_take, Nat.min_eq_left (by rw [List.length_take] at hj; omega)]
 exact this
theorem fits_used {iv : Int} {l : List By} (r : By) (h : fitsP iv (l ++ [r]) = true) : (((l.map List.length).sum : Nat) : Int) + 7 ≤ iv := by
 unfold fitsP at h
 simp only [Bool.and_eq_true, decide_eq_true_eq] at h
 have h1 := size_ge ((l ++ [r]).map List.length) (by simp)
 have h2 : ((l ++ [r]).map List.length).sum = (l.map List.length).sum + r.length := by simp
 omega
end Go.Proofs.YtckpepfkfjdnhaaGreatDoor

/-
  Plain: numbers as keys, pairs, the sizes of intervals. No walk.
-/
import Derived.Test.YtjpkdhnponcciaaGreatDoorCBA
import Derived.Sort.Walk0
namespace Go.Proofs.YtjpkdhnponcciaaGreatDoor
open Go.RowKit Go.Sort

/-- A pair: a key and a record. -/
abbrev Pr := By × By

/-- The last i bytes of a number, the greatest first. -/
def tailB : Nat → Nat → By
 | 0, _ => []
 | i + 1, n => tailB i (n / 256) ++ [b8 (n % 256)]
def slotB (n : Nat) : By := tailB 8 n
/-- How many of the first lengths are x. -/
def headN (x : Nat) : List Nat → Nat
 | [] => 0
 | y :: l => if y = x then headN x l + 1 else 0
theorem headN_le (x : Nat) : ∀ l, headN x l ≤ l.length
 | [] => Nat.le_refl _
 | y :: l => by unfold headN; have := headN_le x l; split <;> simp <;> omega
/-- The bytes of records with some lengths and of their fields. -/
def sizeF : Nat → List Nat → Nat
 | 0, _ => 0
 | _ + 1, [] => 0
 | f + 1, x :: l => (headN x l + 1) * x + 3 * min (headN x l + 1) 2 + sizeF f (l.drop (headN x l))
def sizeP (l : List Nat) : Nat := 4 + sizeF l.length l
/-- More fuel changes nothing. -/
theorem sizeF_fuel : ∀ f g l, l.length ≤ f → l.length ≤ g → sizeF f l = sizeF g l
 | 0, g, l, h, _ => by
   have : l = [] := List.length_eq_zero_iff.1 (by omega)
   subst this; cases g <;> rfl
 | f + 1, 0, l, _, h => by
   have : l = [] := List.length_eq_zero_iff.1 (by omega)
   subst this; rfl
 | f + 1, g + 1, [], _, _ => rfl
 | f + 1, g + 1, x :: l, h, h2 => by
   simp only [List.length_cons] at h h2
   rw [sizeF, sizeF, sizeF_fuel f g _ (by rw [List.length_drop]; omega) (by rw [List.length_drop]; omega)]

def isSizeP (iv : Int) : Bool := decide (iv = 128) || decide (iv = 256) || decide (iv = 512)
def allowP (l : List By) : Bool := l.all fun r => decide (1 ≤ r.length) && decide (r.length ≤ 200)
/-- Whether records fit. -/
def fitsP (iv : Int) (l : List By) : Bool := isSizeP iv && allowP l && decide ((sizeP (l.map List.length) : Int) ≤ iv)

/-- Where the next record of an entry-sequenced data set may begin. -/
structure En where
 page : Nat
 on : List By
def En.used (x : En) : Nat := (x.on.map List.length).sum
def nextE (iv : Nat) (x : En) (r : By) : By × En :=
 if 0 < x.page ∧ fitsP iv (x.on ++ [r]) = true then (slotB (x.page * iv + x.used), ⟨x.page, x.on ++ [r]⟩) else (slotB ((x.page + 1) * iv), ⟨x.page + 1, [r]⟩)
def behindE (iv : Nat) (l : List Pr) : En := l.foldl (fun x p => (nextE iv x p.2).2) ⟨0, []⟩
/-- The addresses of pairs are those that they got one behind the other. -/
def Laid (iv : Nat) (l : List Pr) : Prop := ∀ i (h : i < l.length), l[i].1 = (nextE iv (behindE iv (l.take i)) l[i].2).1
theorem Laid.take {iv : Nat} {l : List Pr} (h : Laid iv l) (i : Nat) : Laid iv (l.take i) := by
 intro j hj
 have hj' : j < l.length := by rw [List.length_take] at hj; omega
 have := h j hj'
 rw [List.getElem_take, List.take_take, Nat.min_eq_left (by rw [List.length_take] at hj; omega)]
 exact this
end Go.Proofs.YtjpkdhnponcciaaGreatDoor

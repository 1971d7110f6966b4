/-
  Plain: numbers as keys, pairs, the sizes of intervals. No walk.
-/
import Derived.Test.YtcefkngblddpoaaGreatDoorG0
import Derived.Sort.Walk0
namespace Go.Proofs.YtcefkngblddpoaaGreatDoor
open Go.RowKit Go.Sort
/-- A pair: a key and a record. -/
abbrev Pr := By × By
/-- The last i bytes of a number, the greatest first. -/
def tailB : Nat → Nat → By
 | 0, _ => []
 | i + 1, n => tailB i (n / 256) ++ [b8 (n % 256)]
def slotB (n : Nat) : By := tailB 8 n
theorem tailB_len : ∀ i n, (tailB i n).length = i
 | 0, _ => rfl
 | i + 1, n => by simp [tailB, tailB_len i]
theorem slot_len (n : Nat) : (slotB n).length = 8 := tailB_len 8 n
/-- The number of bytes. -/
def valB (l : By) : Nat := l.foldl (fun a c => a * 256 + c.toNat) 0
theorem valB_snoc (l : By) (c : UInt8) : valB (l ++ [c]) = valB l * 256 + c.toNat := by simp [valB]
theorem val_tail : ∀ i n, valB (tailB i n) = n % 256 ^ i
 | 0, n => by simp [tailB, valB, Nat.mod_one]
 | i + 1, n => by
   rw [tailB, valB_snoc, val_tail i]
   have h : (b8 (n % 256)).toNat = n % 256 := by simp [b8]
   rw [h, Nat.pow_succ, Nat.mul_comm (256 ^ i) 256, Nat.mod_mul, Nat.mul_comm]
   omega
theorem val_slot (n : Nat) (h : n < 2 ^ 64) : valB (slotB n) = n := by
 unfold slotB
 rw [val_tail]
 exact Nat.mod_eq_of_lt (by have : (256 : Nat) ^ 8 = 2 ^ 64 := by decide
                            omega)
/-- The number that a key is. -/
def numB (k : By) : Option Nat := if k.length = 8 ∧ valB k ≤ 1099511627776 then some (valB k) else none
theorem num_slot (n : Nat) (h : n ≤ 1099511627776) : numB (slotB n) = some n := by
 unfold numB
 have h2 : n < 2 ^ 64 := by have : (2 : Nat) ^ 64 = 18446744073709551616 := by decide
                            omega
 rw [val_slot n h2, if_pos ⟨slot_len n, h⟩]
/-- How many of the first lengths are x. -/
def headN (x : Nat) : List Nat → Nat
 | [] => 0
 | y :: l => if y = x then headN x l + 1 else 0
theorem headN_le (x : Nat) : ∀ l, headN x l ≤ l.length
 | [] => Nat.le_refl _
 | y :: l => by unfold headN; have := headN_le x l; split <;> simp <;> omega
/-- The bytes of records with some lengths and of their fields. -/
def sizeF : Nat → List Nat → Nat
 | 0, _ => 0
 | _ + 1, [] => 0
 | f + 1, x :: l => (headN x l + 1) * x + 3 * min (headN x l + 1) 2 + sizeF f (l.drop (headN x l))
def sizeP (l : List Nat) : Nat := 4 + sizeF l.length l
/-- The bytes of the fields alone. -/
def fieldF : Nat → List Nat → Nat
 | 0, _ => 0
 | _ + 1, [] => 0
 | f + 1, x :: l => fieldF f (l.drop (headN x l)) + 3 * min (headN x l + 1) 2
theorem headN_take (x : Nat) : ∀ l, l.take (headN x l) = List.replicate (headN x l) x
 | [] => rfl
 | y :: l => by
   unfold headN
   split
   · rename_i h; subst h; rw [List.take_succ_cons, List.replicate_succ, headN_take y l]
   · rfl
theorem headN_sum (x : Nat) (l : List Nat) : l.sum = headN x l * x + (l.drop (headN x l)).sum := by
 conv => lhs; rw [← List.take_append_drop (headN x l) l, List.sum_append, headN_take]
 congr 1
 induction headN x l with
 | zero => simp
 | succ n ih => rw [List.replicate_succ, List.sum_cons, ih, Nat.add_mul]; omega
theorem size_field : ∀ f l, l.length ≤ f → sizeF f l = fieldF f l + l.sum
 | 0, l, h => by
   have : l = [] := List.length_eq_zero_iff.1 (by omega)
   subst this; rfl
 | f + 1, [], _ => rfl
 | f + 1, x :: l, h => by
   have h1 : l.length ≤ f := by simpa using h
   rw [sizeF, fieldF, size_field f (l.drop (headN x l)) (by rw [List.length_drop]; omega), List.sum_cons, headN_sum x l, Nat.add_mul]
   omega
theorem fieldF_le : ∀ f l, fieldF f l ≤ 6 * f
 | 0, _ => by simp [fieldF]
 | f + 1, [] => by simp [fieldF]
 | f + 1, x :: l => by rw [fieldF]; have := fieldF_le f (l.drop (headN x l)); omega
theorem size_ge (l : List Nat) (h : l ≠ []) : l.sum + 7 ≤ sizeP l := by
 unfold sizeP
 rw [size_field _ _ (Nat.le_refl _)]
 match l, h with
 | x :: l, _ => rw [List.length_cons, fieldF]; omega
/-- More fuel changes nothing. -/
theorem sizeF_fuel : ∀ f g l, l.length ≤ f → l.length ≤ g → sizeF f l = sizeF g l
 | 0, g, l, h, _ => by
   have : l = [] := List.length_eq_zero_iff.1 (by omega)
   subst this; cases g <;> rfl
 | f + 1, 0, l, _, h => by
   have : l = [] := List.length_eq_zero_iff.1 (by omega)
   subst this; rfl
 | f + 1, g + 1, [], _, _ => rfl
 | f + 1, g + 1, x :: l, h, h2 => by
   simp only [List.length_cons] at h h2
   rw [sizeF, sizeF, sizeF_fuel f g _ (by rw [List.length_drop]; omega) (by rw [List.length_drop]; omega)]
def isSizeP (iv : Int) : Bool := decide (iv = 128) || decide (iv = 256) || decide (iv = 512)
def allowP (l : List By) : Bool := l.all fun r => decide (1 ≤ r.length) && decide (r.length ≤ 200)
/-- Whether records fit. -/
def fitsP (iv : Int) (l : List By) : Bool := isSizeP iv && allowP l && decide ((sizeP (l.map List.length) : Int) ≤ iv)
/-- Where the next record of an entry-sequenced data set may begin. -/
structure En where
 page : Nat
 on : List By
def En.used (x : En) : Nat := (x.on.map List.length).sum
def nextE (iv : Nat) (x : En) (r : By) : By × En :=
 if 0 < x.page ∧ fitsP iv (x.on ++ [r]) = true then (slotB (x.page * iv + x.used), ⟨x.page, x.on ++ [r]⟩) else (slotB ((x.page + 1) * iv), ⟨x.page + 1, [r]⟩)
def behindE (iv : Nat) (l : List Pr) : En := l.foldl (fun x p => (nextE iv x p.2).2) ⟨0, []⟩
theorem behind_snoc (iv : Nat) (l : List Pr) (p : Pr) : behindE iv (l ++ [p]) = (nextE iv (behindE iv l) p.2).2 := by simp [behindE]
theorem snoc_ind {α : Type} {P : List α → Prop} (h0 : P []) (hs : ∀ l x, P l → P (l ++ [x])) (l : List α) : P l := by
 have h : ∀ m : List α, P m.reverse := by
  intro m
  induction m with
  | nil => exact h0
  | cons x m ih => rw [List.reverse_cons]; exact hs _ _ ih
 have := h l.reverse
 rwa [List.reverse_reverse] at this
theorem behind_page (iv : Nat) : ∀ l : List Pr, (behindE iv l).page ≤ l.length := by
 refine snoc_ind (Nat.le_refl 0) fun l p ih => ?_
 rw [behind_snoc, nextE, List.length_append]
 split <;> simp <;> omega
theorem behind_pos (iv : Nat) : ∀ l : List Pr, l ≠ [] → 0 < (behindE iv l).page := by
 refine snoc_ind (fun h => absurd rfl h) fun l p _ _ => ?_
 rw [behind_snoc, nextE]
 split
 · rename_i h; exact h.1
 · exact Nat.succ_pos _
/-- The number that the reference reads from a key. -/
def numN (k : By) : Nat := (numB k).getD 0
theorem numN_slot (n : Nat) (h : n ≤ 1099511627776) : numN (slotB n) = n := by unfold numN; rw [num_slot n h]; rfl
/-- The reference's address behind some pairs. -/
def pageR (iv : Nat) (l : List Pr) : Nat := match l.getLast? with
 | none => 0
 | some q => numN q.1 / iv
def onR (iv page : Nat) (l : List Pr) : List By := (l.filter fun p => decide (numN p.1 / iv = page)).map Prod.snd
def addrR (iv : Nat) (l : List Pr) (r : By) : By :=
 if l = [] then slotB iv
 else if fitsP iv (onR iv (pageR iv l) l ++ [r]) = true then slotB (pageR iv l * iv + ((onR iv (pageR iv l) l).map List.length).sum)
 else slotB ((pageR iv l + 1) * iv)
/-- The addresses of pairs are those that they got one behind the other. -/
def Laid (iv : Nat) (l : List Pr) : Prop := ∀ i (h : i < l.length), l[i].1 = (nextE iv (behindE iv (l.take i)) l[i].2).1
theorem Laid.take {iv : Nat} {l : List Pr} (h : Laid iv l) (i : Nat) : Laid iv (l.take i) := by
 intro j hj
 have hj' : j < l.length := by rw [List.length_take] at hj; omega
 have := h j hj'
 rw [List.getElem_take, List.take_take, Nat.min_eq_left (by rw [List.length_take] at hj; omega)]
 exact this
theorem fits_used {iv : Int} {l : List By} (r : By) (h : fitsP iv (l ++ [r]) = true) : (((l.map List.length).sum : Nat) : Int) + 7 ≤ iv := by
 unfold fitsP at h
 simp only [Bool.and_eq_true, decide_eq_true_eq] at h
 have h1 := size_ge ((l ++ [r]).map List.length) (by simp)
 have h2 : ((l ++ [r]).map List.length).sum = (l.map List.length).sum + r.length := by simp
 omega
structure Inv (iv : Nat) (l : List Pr) : Prop where
 page : pageR iv l = (behindE iv l).page
 on : onR iv (behindE iv l).page l = (behindE iv l).on
 all : ∀ p ∈ l, numN p.1 / iv ≤ (behindE iv l).page ∧ numN p.1 ≤ l.length * 1024 + 1024
theorem inv_of {iv : Nat} (hiv : 1 ≤ iv) (hiv2 : iv ≤ 512) : ∀ l : List Pr, l.length ≤ 1000000 → Laid iv l → Inv iv l := by
 refine snoc_ind (fun _ _ => ⟨rfl, rfl, fun p hp => by cases hp⟩) fun l p ih hlen hl => ?_
 have hlen' : l.length + 1 ≤ 1000000 := by simpa using hlen
 have i := ih (by omega) (by have := hl.take l.length; rwa [List.take_left'] at this; rfl)
 have hk := hl l.length (by simp)
 rw [List.take_left' rfl, List.getElem_append_right (Nat.le_refl _)] at hk
 simp only [Nat.sub_self, List.getElem_cons_zero] at hk
 have hp := behind_page iv l
 by_cases hf : 0 < (behindE iv l).page ∧ fitsP iv ((behindE iv l).on ++ [p.2]) = true
 · have hu := fits_used p.2 hf.2
   have hn : nextE iv (behindE iv l) p.2 = (slotB ((behindE iv l).page * iv + (behindE iv l).used), ⟨(behindE iv l).page, (behindE iv l).on ++ [p.2]⟩) := by rw [nextE, if_pos hf]
   have hu2 : (behindE iv l).used < iv := by unfold En.used; omega
   have hb : behindE iv (l ++ [p]) = ⟨(behindE iv l).page, (behindE iv l).on ++ [p.2]⟩ := by rw [behind_snoc, hn]
   have hm2 : (behindE iv l).page * iv ≤ l.length * 512 := Nat.mul_le_mul hp hiv2
   have hv : numN p.1 = (behindE iv l).page * iv + (behindE iv l).used := by rw [hk, hn]; exact numN_slot _ (by omega)
   have hd : numN p.1 / iv = (behindE iv l).page := by
    rw [hv, Nat.mul_comm, Nat.mul_add_div (by omega), Nat.div_eq_of_lt hu2]; omega
   refine ⟨?_, ?_, fun q hq => ?_⟩
   · rw [hb]; simp [pageR, hd]
   · rw [hb]
     have := i.on
     simp only [onR, List.filter_append, List.map_append] at this ⊢
     rw [this]
     simp [hd]
   · rw [hb]
     rcases List.mem_append.1 hq with hq | hq
     · have := i.all q hq
       refine ⟨this.1, ?_⟩
       rw [List.length_append, List.length_singleton]; omega
     · obtain rfl := List.mem_singleton.1 hq
       refine ⟨by simp only [hd]; exact Nat.le_refl _, ?_⟩
       rw [List.length_append, List.length_singleton, hv]; omega
 · have hn : nextE iv (behindE iv l) p.2 = (slotB (((behindE iv l).page + 1) * iv), ⟨(behindE iv l).page + 1, [p.2]⟩) := by rw [nextE, if_neg hf]
   have hb : behindE iv (l ++ [p]) = ⟨(behindE iv l).page + 1, [p.2]⟩ := by rw [behind_snoc, hn]
   have hm2 : ((behindE iv l).page + 1) * iv ≤ (l.length + 1) * 512 := Nat.mul_le_mul (by omega) hiv2
   have hv : numN p.1 = ((behindE iv l).page + 1) * iv := by rw [hk, hn]; exact numN_slot _ (by omega)
   have hd : numN p.1 / iv = (behindE iv l).page + 1 := by rw [hv, Nat.mul_div_cancel _ (by omega)]
   refine ⟨?_, ?_, fun q hq => ?_⟩
   · rw [hb]; simp [pageR, hd]
   · rw [hb]
     have he : (l.filter fun q => decide (numN q.1 / iv = (behindE iv l).page + 1)) = [] := by
      rw [List.filter_eq_nil_iff]
      intro q hq
      have := (i.all q hq).1
      simp; omega
     simp only [onR, List.filter_append, List.map_append, he]
     simp [hd]
   · rw [hb]
     rcases List.mem_append.1 hq with hq | hq
     · have := i.all q hq
       refine ⟨Nat.le_succ_of_le this.1, ?_⟩
       rw [List.length_append, List.length_singleton]; omega
     · obtain rfl := List.mem_singleton.1 hq
       refine ⟨by simp only [hd]; exact Nat.le_refl _, ?_⟩
       rw [List.length_append, List.length_singleton, hv]; exact Nat.le_trans hm2 (by clear hm2 hv hd hk; omega)
/-- The reference's address is the program's. -/
theorem addr_eq {iv : Nat} (hiv : 1 ≤ iv) (hiv2 : iv ≤ 512) (l : List Pr) (r : By) (hlen : l.length ≤ 1000000) (hl : Laid iv l) : addrR iv l r = (nextE iv (behindE iv l) r).1 := by
 have i := inv_of hiv hiv2 l hlen hl
 unfold addrR nextE
 by_cases h0 : l = []
 · subst h0; simp [behindE]
 · have hp := behind_pos iv l h0
   rw [if_neg h0, i.page, i.on]
   by_cases hf : fitsP iv ((behindE iv l).on ++ [r]) = true
   · rw [if_pos hf, if_pos ⟨hp, hf⟩]; rfl
   · rw [if_neg hf, if_neg (fun h => hf h.2)]
end Go.Proofs.YtcefkngblddpoaaGreatDoor

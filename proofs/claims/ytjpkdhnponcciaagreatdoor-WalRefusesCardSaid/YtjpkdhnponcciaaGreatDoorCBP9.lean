/-
  Plain mathematics of numbers and texts: what is written is read again. No walk, no condition. Plain mathematics of records of the log: what is encoded is decoded again. No walk, no condition. Plain mathematics of the log: sectors, stores in memory, and what each function of the log computes of them. No walk, no condition. Plain mathematics of the log: pieces of a record, stores in memory, and what the functions of the log compute. No walk, no condition. Plain mathematics of the log: copies that hold a list of records, and what is read of them. No walk, no condition. Plain mathematics of the log: writes of sectors; copies that hold a log. No walk, no condition. Plain mathematics of the log: copies that hold a log; what begins, appends, trims. No walk, no condition. Plain mathematics of the log: what append, read, trim compute of copies that hold a log. No walk, no condition. Plain mathematics of the log: a copy is made like another one; a log of which one copy is damaged or behind. No walk, no condition. Plain mathematics of the log: the records have successive numbers; the reference computes the same. No walk, no condition.
-/
import Derived.Test.YtjpkdhnponcciaaGreatDoorCBCC
import Derived.Test.YtjpkdhnponcciaaGreatDoorCBTT
import Derived.Test.YtjpkdhnponcciaaGreatDoorCBVA
namespace Go.Proofs.YtjpkdhnponcciaaGreatDoor

section
open Go.RowKit Go.Sort

theorem dec_num : ∀ (f i acc x : Nat) (rest : By), i + f = 10 → x < 2 ^ (63 - 7 * i) → (0 < i → x ≠ 0) → decG f i acc (numF f x ++ rest) = (acc + x * 2 ^ (7 * i), i + (numF f x).length)
 | 0, i, acc, x, rest, hi, hx, h0 => by
   have : i = 10 := by omega
   subst this
   simp at hx
   exact absurd hx (h0 (by omega))
 | f + 1, i, acc, x, rest, hi, hx, h0 => by
   have hp : 2 ^ (63 - 7 * i) = if i = 9 then 1 else 128 * 2 ^ (63 - 7 * (i + 1)) := by
     split
     · rename_i h; subst h; rfl
     · rw [show 63 - 7 * i = 7 + (63 - 7 * (i + 1)) by omega, Nat.pow_add]
   unfold numF
   by_cases hs : x < 128
   · rw [if_pos hs]
     have hb : (b8 x).toNat = x := by simp [b8]; omega
     rw [List.cons_append, List.nil_append, decG, hb]
     rw [if_neg (by rintro ⟨rfl, h1⟩; simp at hx; omega), if_pos hs, if_neg (by rintro ⟨h1, h2⟩; exact h0 h2 h1), Nat.mod_eq_of_lt hs]
     rfl
   · rw [if_neg hs]
     have hb : (b8 (x % 128 + 128)).toNat = x % 128 + 128 := by simp [b8]; omega
     have hi9 : ¬ i = 9 := by rintro rfl; simp at hx; omega
     rw [if_neg hi9] at hp
     rw [List.cons_append, decG, hb]
     rw [if_neg (fun h => hi9 h.1), if_neg (by omega)]
     have hd : x / 128 < 2 ^ (63 - 7 * (i + 1)) := by
       generalize 2 ^ (63 - 7 * (i + 1)) = y at hp ⊢
       omega
     rw [dec_num f (i + 1) _ (x / 128) rest (by omega) hd (fun _ => by omega), show (x % 128 + 128) % 128 = x % 128 by omega]
     have e : 2 ^ (7 * (i + 1)) = 128 * 2 ^ (7 * i) := by rw [show 7 * (i + 1) = 7 + 7 * i by omega, Nat.pow_add]
     rw [e, List.length_cons, ← Nat.mul_assoc]
     congr 1
     · rw [Nat.add_assoc, ← Nat.add_mul, show x % 128 + x / 128 * 128 = x by omega]
     · omega
theorem num_pos (n : Nat) : 0 < (num n).length := by
 unfold num; rw [show (10 : Nat) = 9 + 1 by rfl, numF]; split <;> simp
theorem cnt_num (most n : Nat) (rest : By) (h : n ≤ most) (hn : n < 2 ^ 63) : cntR most (num n ++ rest) 0 = (n, rest, 0) := by
 have hd : decV (num n ++ rest) = (n, (num n).length) := by
   unfold decV num
   rw [dec_num 10 0 0 n rest rfl (by simpa using hn) (fun h => absurd h (by omega))]
   simp
 have hp := num_pos n
 have hr : numR (num n ++ rest) 0 = (n, rest, 0) := by
   unfold numR
   rw [if_pos rfl, hd]
   simp only
   rw [if_neg (by omega), List.drop_left' rfl]
 unfold cntR
 rw [hr]
 simp only
 rw [if_pos trivial, if_neg (by omega)]

/-! ### What is read: truth values, texts, several numbers -/
def cntsR (most : Nat) : Nat → By → Int → List Nat × By × Int
 | 0, l, e => ([], l, e)
 | k + 1, l, e => ((cntR most l e).1 :: (cntsR most k (cntR most l e).2.1 (cntR most l e).2.2).1, (cntsR most k (cntR most l e).2.1 (cntR most l e).2.2).2)
def bitB (b : Bool) : By := [if b then 1 else 0]
def numsB : List Int → By
 | [] => []
 | n :: l => num n.toNat ++ numsB l
theorem numsB_len : ∀ l : List Int, (numsB l).length ≤ 10 * l.length
 | [] => by simp [numsB]
 | x :: l => by
   have h1 := num_length x.toNat
   have h2 := numsB_len l
   rw [numsB, List.length_append, List.length_cons]; omega
theorem bool_bit (b : Bool) (r : By) : boolR (bitB b ++ r) 0 = (b, r, 0) := by
 cases b <;> rfl
theorem text_text (most : Nat) (t r : By) (h : t.length ≤ most) (h2 : most < 2 ^ 63) : textR most (textB t ++ r) 0 = (t, r, 0) := by
 have hc : cntR most (textB t ++ r) 0 = (t.length, t ++ r, 0) := by
   unfold textB
   rw [List.append_assoc]
   exact cnt_num most t.length (t ++ r) h (by omega)
 unfold textR
 rw [hc]
 simp only
 rw [if_pos trivial, if_neg (by rw [List.length_append]; omega), List.take_left' rfl, List.drop_left' rfl]
theorem cnts_nums (most : Nat) (hm : most < 2 ^ 63) : ∀ (l : List Int) (r : By), (∀ x ∈ l, 0 ≤ x ∧ x ≤ most) → cntsR most l.length (numsB l ++ r) 0 = (l.map Int.toNat, r, 0)
 | [], r, _ => rfl
 | x :: l, r, h => by
   have hx := h x (by simp)
   have ih := cnts_nums most hm l r (fun y hy => h y (by simp [hy]))
   have hc := cnt_num most x.toNat (numsB l ++ r) (by omega) (by omega)
   simp only [List.length_cons, cntsR, numsB, List.append_assoc, hc, ih, List.map_cons]
theorem textR_len (most : Nat) (l : By) (e : Int) : (textR most l e).2.1.length ≤ l.length := by
 have := cntR_len most l e
 unfold textR
 split
 · split
   · simp
   · simp only [List.length_drop]; omega
 · exact this
theorem textR_len1 (most : Nat) (l : By) (e : Int) : (textR most l e).1.length ≤ l.length := by
 have := cntR_len most l e
 unfold textR
 split
 · split
   · simp
   · simp only [List.length_take]; omega
 · simp
theorem boolR_len (l : By) (e : Int) : (boolR l e).2.1.length ≤ l.length := by
 unfold boolR
 split
 · cases l with
   | nil => simp
   | cons b r =>
     simp only
     split <;> simp
 · exact Nat.le_refl _
theorem cntsR_len (most : Nat) : ∀ (k : Nat) (l : By) (e : Int), (cntsR most k l e).2.1.length ≤ l.length
 | 0, _, _ => Nat.le_refl _
 | k + 1, l, e => by
   simp only [cntsR]
   exact Nat.le_trans (cntsR_len most k _ _) (cntR_len most l e)
theorem cntsR_len1 (most : Nat) : ∀ (k : Nat) (l : By) (e : Int), (cntsR most k l e).1.length = k
 | 0, _, _ => rfl
 | k + 1, l, e => by simp only [cntsR, List.length_cons, cntsR_len1 most k]
end

section
open Go.RowKit Go.Sort

/-- A record of the log. -/
structure Rc where
 num : Int
 unit : Int
 l : List Ch
instance : Inhabited Rc := ⟨⟨0, 0, []⟩⟩
def Rc.lr (r : Rc) (a : Option Addr) (cap : Nat) : Lr := ⟨r.num, r.unit, a, cap, r.l⟩
def Lr.rc (x : Lr) : Rc := ⟨x.num, x.unit, x.l⟩
def Rc.sound (r : Rc) : Bool := soundP (r.lr none 0)
def Rc.b (r : Rc) : By := lrB (r.lr none 0)
def Rc.valid (r : Rc) : Bool := validR (r.lr none 0)
def Rc.last (r : Rc) : Int := r.num + r.l.length - 1
theorem Rc.sound_lr (r : Rc) (a : Option Addr) (cap : Nat) : soundP (r.lr a cap) = r.sound := rfl
theorem Rc.b_lr (r : Rc) (a : Option Addr) (cap : Nat) : lrB (r.lr a cap) = r.b := rfl
theorem Rc.valid_lr (r : Rc) (a : Option Addr) (cap : Nat) : validR (r.lr a cap) = r.valid := rfl
theorem Lr.lr_rc (x : Lr) : x.rc.lr x.a x.cap = x := rfl

/-- A change that is read, what is left, the error. -/
def chD (left : By) (err : Int) : Ch × By × Int :=
 let k := cntR 7 left err
 let i := cntR 1099511627776 k.2.1 k.2.2
 let a := textR 32 i.2.1 i.2.2
 let d := textR 1000 a.2.1 a.2.2
 let v := textR 31 d.2.1 d.2.2
 (⟨k.1, i.1, a.1, d.1, v.1⟩, v.2.1, v.2.2)
def chsD : Nat → By → Int → List Ch × By × Int
 | 0, l, e => ([], l, e)
 | k + 1, l, e => let r := chD l e; let q := chsD k r.2.1 r.2.2; (r.1 :: q.1, q.2.1, q.2.2)
/-- What is decoded. -/
def rcD (s : By) : Option Rc :=
 if s.length ≤ 16384 then
   let n := cntR 1099511627776 s 0
   let u := cntR 1099511627776 n.2.1 n.2.2
   let k := cntR 300 u.2.1 u.2.2
   let c := chsD k.1 k.2.1 k.2.2
   if endR c.2.1 c.2.2 = 0 ∧ (Rc.mk n.1 u.1 c.1).sound = true then some ⟨n.1, u.1, c.1⟩ else none
 else none

theorem ch_ok {c : Ch} (h : chV c = true) : (0 ≤ c.kind ∧ c.kind ≤ 7) ∧ (1 ≤ c.id ∧ c.id ≤ 1099511627776) ∧ c.key.length ≤ 32 ∧ c.dat.length ≤ 1000 ∧ c.vol.length ≤ 31 := by
 unfold chV chgP at h
 simp only [Bool.and_eq_true, decide_eq_true_eq] at h
 obtain ⟨⟨⟨⟨h1, h2⟩, h3⟩, h4⟩, h5⟩ := h
 refine ⟨h1, h2, ?_, ?_, ?_⟩
 · unfold fitB keyHi keyLo at h3
   simp only [Bool.and_eq_true, decide_eq_true_eq] at h3
   obtain ⟨_, h3⟩ := h3
   split at h3 <;> omega
 · unfold fitB recHi recLo at h4
   simp only [Bool.and_eq_true, decide_eq_true_eq] at h4
   obtain ⟨_, h4⟩ := h4
   (repeat split at h4) <;> omega
 · split at h5
   · unfold volP at h5
     simp at h5
     omega
   · simp at h5; rw [h5]; simp
theorem chD_chB (c : Ch) (h : chV c = true) (rest : By) : chD (chB c ++ rest) 0 = (c, rest, 0) := by
 obtain ⟨h1, h2, h3, h4, h5⟩ := ch_ok h
 unfold chD chB
 simp only [List.append_assoc]
 rw [cnt_num 7 c.kind.toNat _ (by omega) (by omega)]
 simp only
 rw [cnt_num 1099511627776 c.id.toNat _ (by omega) (by omega)]
 simp only
 rw [text_text 32 c.key _ h3 (by omega)]
 simp only
 rw [text_text 1000 c.dat _ h4 (by omega)]
 simp only
 rw [text_text 31 c.vol _ h5 (by omega)]
 rw [Int.toNat_of_nonneg h1.1, Int.toNat_of_nonneg (by omega)]
theorem chsD_chsB : ∀ (l : List Ch) (rest : By), (∀ c ∈ l, chV c = true) → chsD l.length (chsB l ++ rest) 0 = (l, rest, 0)
 | [], rest, _ => by simp [chsD, chsB]
 | c :: l, rest, h => by
   have e : chsB (c :: l) ++ rest = chB c ++ (chsB l ++ rest) := by simp [chsB]
   rw [e, List.length_cons, chsD, chD_chB c (h c (by simp))]
   simp only
   rw [chsD_chsB l rest (fun x hx => h x (by simp [hx]))]
theorem rcD_b (r : Rc) (h : r.valid = true) : rcD r.b = some r := by
 unfold Rc.valid validR at h
 simp only [Bool.and_eq_true, decide_eq_true_eq] at h
 obtain ⟨hs, hl⟩ := h
 obtain ⟨⟨h1, h2, h3, h4⟩, h5⟩ := sound_of hs
 have h1' : 1 ≤ r.unit ∧ r.unit ≤ 1099511627776 := h1
 have h2' : 1 ≤ r.l.length ∧ r.l.length ≤ 300 := h2
 have h3' : 1 ≤ r.num := h3
 have h4' : r.num + r.l.length - 1 ≤ 1099511627776 := h4
 unfold rcD
 rw [if_pos (show r.b.length ≤ 16384 from hl)]
 have e : r.b = num r.num.toNat ++ (num r.unit.toNat ++ (num r.l.length ++ (chsB r.l ++ []))) := by simp [Rc.b, lrB, Rc.lr]
 rw [e, cnt_num _ _ _ (by omega) (by omega)]
 simp only
 rw [cnt_num _ _ _ (by omega) (by omega)]
 simp only
 rw [cnt_num _ _ _ (by omega) (by omega)]
 simp only
 rw [chsD_chsB r.l [] h5]
 simp only [Int.toNat_of_nonneg (show 0 ≤ r.num by omega), Int.toNat_of_nonneg (show 0 ≤ r.unit by omega)]
 rw [if_pos ⟨by simp [endR], hs⟩]
end

section
open Go.RowKit Go.Sort

/-! ### Sectors -/
def sealL (s : By) : By := s ++ Crc.bytes (Crc.sum s)
def openL (s : By) : Option By := if 4 ≤ s.length ∧ sealL (s.take (s.length - 4)) = s then some (s.take (s.length - 4)) else none
theorem sealL_len (s : By) : (sealL s).length = s.length + 4 := by simp [sealL, Crc.bytes_length]
theorem open_seal (s : By) : openL (sealL s) = some s := by
 have h : (sealL s).take ((sealL s).length - 4) = s := by rw [sealL_len]; simp [sealL]
 unfold openL
 rw [if_pos ⟨by rw [sealL_len]; omega, by rw [h]⟩, h]
def padL (s : By) : By := s ++ zeros (124 - s.length)
def sectL (s : By) : By := sealL (padL s)
theorem padL_len (s : By) (h : s.length ≤ 124) : (padL s).length = 124 := by simp [padL, zeros]; omega
theorem sectL_len (s : By) (h : s.length ≤ 124) : (sectL s).length = 128 := by rw [sectL, sealL_len, padL_len s h]
theorem open_sect (s : By) : openL (sectL s) = some (padL s) := open_seal _

/-- The head of a log: sectors, numbers of the first and of the next record, where the first begins, sectors in use. -/
structure Hw where
 n : Nat
 first : Nat
 next : Nat
 at' : Nat
 used : Nat
instance : Inhabited Hw := ⟨⟨0, 0, 0, 0, 0⟩⟩
structure HwOk (h : Hw) : Prop where
 n : 16 ≤ h.n ∧ h.n ≤ 4096
 first : h.first ≤ 1099511627777
 next : h.next ≤ 1099511627777
 at' : 1 ≤ h.at' ∧ h.at' < h.n
 used : h.used ≤ h.n - 1
def Hw.b (h : Hw) : By := num h.n ++ num h.first ++ num h.next ++ num h.at' ++ num h.used
def Hw.s (h : Hw) : By := sectL h.b
def Hw.free (h : Hw) : Nat := h.n - 1 - h.used
def Hw.place (h : Hw) (at' k : Nat) : Nat := (at' - 1 + k) % (h.n - 1) + 1
def Hw.newer (h g : Hw) : Bool := decide (g.next < h.next ∨ h.next = g.next ∧ g.first < h.first)
def hwD (t : By) : Option Hw :=
 let a := cntR 1099511627777 t 0
 let b := cntR 1099511627777 a.2.1 a.2.2
 let c := cntR 1099511627777 b.2.1 b.2.2
 let d := cntR 1099511627777 c.2.1 c.2.2
 let u := cntR 1099511627777 d.2.1 d.2.2
 if u.2.1.length = 0 ∨ a.1 < 16 ∨ 4096 < a.1 ∨ d.1 < 1 ∨ a.1 ≤ d.1 ∨ a.1 - 1 < u.1 then none else some ⟨a.1, b.1, c.1, d.1, u.1⟩
theorem num_len40 (n : Nat) (h : n < 2 ^ 42) : (num n).length ≤ 6 := by
 unfold num
 have key : ∀ (f k n : Nat), k ≤ f → n < 128 ^ (k + 1) → (numF (f + 1) n).length ≤ k + 1 := by
   intro f
   induction f with
   | zero => intro k n hk hn; have : k = 0 := by omega
             subst this; have h' : n < 128 := by simpa using hn
             rw [numF_small _ _ h']; simp
   | succ f ih =>
     intro k n hk hn
     by_cases hs : n < 128
     · rw [numF_small _ _ hs]; simp
     · rw [numF_big _ _ (by omega)]
       match k with
       | 0 => simp at hn; omega
       | k + 1 =>
         have := ih k (n / 128) (by omega) (by rw [Nat.div_lt_iff_lt_mul (by omega)]; rw [Nat.pow_succ] at hn; exact hn)
         simp only [List.length_cons]; omega
 exact key 9 5 n (by omega) (by have : (128 : Nat) ^ 6 = 2 ^ 42 := by decide
                                omega)
theorem Hw.b_len (h : Hw) (ok : HwOk h) : h.b.length ≤ 30 := by
 obtain ⟨⟨_, h1⟩, h2, h3, ⟨_, h4⟩, h5⟩ := ok
 unfold Hw.b
 have a := num_len40 h.n (by omega)
 have b := num_len40 h.first (by omega)
 have c := num_len40 h.next (by omega)
 have d := num_len40 h.at' (by omega)
 have u := num_len40 h.used (by omega)
 simp only [List.length_append]; omega
theorem hwD_b (h : Hw) (ok : HwOk h) : hwD (padL h.b) = some h := by
 have hl := h.b_len ok
 obtain ⟨⟨h0, h1⟩, h2, h3, ⟨h4, h4'⟩, h5⟩ := ok
 have e : padL h.b = num h.n ++ (num h.first ++ (num h.next ++ (num h.at' ++ (num h.used ++ zeros (124 - h.b.length))))) := by simp [padL, Hw.b]
 unfold hwD
 rw [e, cnt_num _ _ _ (by omega) (by omega)]
 simp only
 rw [cnt_num _ _ _ (by omega) (by omega)]
 simp only
 rw [cnt_num _ _ _ (by omega) (by omega)]
 simp only
 rw [cnt_num _ _ _ (by omega) (by omega)]
 simp only
 rw [cnt_num _ _ _ (by omega) (by omega)]
 simp only
 rw [if_neg]
 simp [zeros]
 omega
theorem hwD_ok {t : By} {h : Hw} (hd : hwD t = some h) : HwOk h := by
 unfold hwD at hd
 simp only at hd
 split at hd
 · cases hd
 · rename_i hn
   cases hd
   have e : ∀ l e', (cntR 1099511627777 l e').1 ≤ 1099511627777 := by
     intro l e'
     unfold cntR
     split
     · split
       · simp
       · simp; omega
     · simp
   refine ⟨?_, ?_, ?_, ?_, ?_⟩ <;> simp only [not_or, Nat.not_lt, Nat.not_le] at hn ⊢
   · omega
   · exact e _ _
   · exact e _ _
   · omega
   · omega
end

section
open Go.RowKit Go.Sort

/-! ### Pieces of a record -/
def sumN (s : By) : Nat := (Crc.sum s).toNat
def chunkW (s : By) (i : Nat) : By := (s.drop (96 * i)).take 96
def cntW (n : Nat) : Nat := (n + 95) / 96
def pieceT (number i : Nat) (s : By) : By := num number ++ num i ++ num s.length ++ num (sumN s) ++ textB (chunkW s i)
def pieceS (number i : Nat) (s : By) : By := sectL (pieceT number i s)
def piecesL (number : Nat) (s : By) : List By := (List.range (cntW s.length)).map fun i => pieceS number i s
/-- What a sector of a record says. -/
structure Pc where
 num : Nat
 idx : Nat
 len : Nat
 sum : Nat
 dat : By
def pcD (t : By) : Option Pc :=
 let a := cntR 1099511627776 t 0
 let b := cntR 1099511627776 a.2.1 a.2.2
 let c := cntR 1099511627776 b.2.1 b.2.2
 let d := cntR 1099511627776 c.2.1 c.2.2
 let u := textR 96 d.2.1 d.2.2
 if u.2.1.length = 0 then none else some ⟨a.1, b.1, c.1, d.1, u.1⟩
theorem sumN_lt (s : By) : sumN s < 4294967296 := (Crc.sum s).isLt
theorem chunkW_len (s : By) (i : Nat) : (chunkW s i).length ≤ 96 := by simp [chunkW]; omega
theorem pieceT_len (number i : Nat) (s : By) (h1 : number ≤ 1099511627776) (h2 : i ≤ 1000) (h3 : s.length ≤ 16384) : (pieceT number i s).length ≤ 122 := by
 have a := num_len40 number (by omega)
 have b := num_len40 i (by omega)
 have c := num_len40 s.length (by omega)
 have d := num_len40 (sumN s) (by have := sumN_lt s; omega)
 have u := chunkW_len s i
 have b3 : (num i).length ≤ 2 := by
   unfold num
   by_cases h : i < 128
   · rw [numF_small _ _ h]; simp
   · rw [numF_big _ _ (by omega), numF_small _ _ (by omega)]; simp
 have c3 : (num s.length).length ≤ 3 := by
   unfold num
   by_cases h : s.length < 128
   · rw [numF_small _ _ h]; simp
   · rw [numF_big _ _ (by omega)]
     by_cases h2 : s.length / 128 < 128
     · rw [numF_small _ _ h2]; simp
     · rw [numF_big _ _ (by omega), numF_small _ _ (by omega)]; simp
 have v : (num (chunkW s i).length).length = 1 := by unfold num; rw [numF_small _ _ (by omega)]; simp
 unfold pieceT textB
 simp only [List.length_append]; omega
theorem pieceS_len (number i : Nat) (s : By) (h1 : number ≤ 1099511627776) (h2 : i ≤ 1000) (h3 : s.length ≤ 16384) : (pieceS number i s).length = 128 :=
 sectL_len _ (by have := pieceT_len number i s h1 h2 h3; omega)
theorem pcD_piece (number i : Nat) (s : By) (h1 : number ≤ 1099511627776) (h2 : i ≤ 1000) (h3 : s.length ≤ 16384) : pcD (padL (pieceT number i s)) = some ⟨number, i, s.length, sumN s, chunkW s i⟩ := by
 have hl := pieceT_len number i s h1 h2 h3
 have hs := sumN_lt s
 have e : padL (pieceT number i s) = num number ++ (num i ++ (num s.length ++ (num (sumN s) ++ (textB (chunkW s i) ++ zeros (124 - (pieceT number i s).length))))) := by simp [padL, pieceT]
 unfold pcD
 rw [e, cnt_num _ _ _ (by omega) (by omega)]
 simp only
 rw [cnt_num _ _ _ (by omega) (by omega)]
 simp only
 rw [cnt_num _ _ _ (by omega) (by omega)]
 simp only
 rw [cnt_num _ _ _ (by omega) (by omega)]
 simp only
 rw [text_text 96 _ _ (chunkW_len s i) (by omega)]
 simp only
 rw [if_neg]
 simp [zeros]
 omega
theorem chunks_join (s : By) : ∀ k, ((List.range k).map (chunkW s)).flatten = s.take (96 * k)
 | 0 => by simp
 | k + 1 => by
   rw [List.range_succ, List.map_append, List.flatten_append, chunks_join s k]
   simp only [List.map_cons, List.map_nil, List.flatten_cons, List.flatten_nil, List.append_nil, chunkW]
   rw [show 96 * (k + 1) = 96 * k + 96 by omega, List.take_add]
theorem chunks_all (s : By) : ((List.range (cntW s.length)).map (chunkW s)).flatten = s := by
 rw [chunks_join, List.take_of_length_le]
 unfold cntW; omega

/-! ### Stores in memory -/
structure Mm where
 secs : List By
 bad : Nat → Bool
 fuse : Int
instance : Inhabited Mm := ⟨⟨[], fun _ => false, -1⟩⟩
def Mm.rd (M : Mm) (k : Nat) : Option By := if M.bad k = true then none else M.secs[k]?
def Mm.put (M : Mm) (x : Nat × By) : Mm := ⟨M.secs.set x.1 x.2, fun k => if k = x.1 then false else M.bad k, M.fuse⟩
def Mm.puts (M : Mm) (l : List (Nat × By)) : Mm := l.foldl Mm.put M
def Mm.fits (M : Mm) (l : List (Nat × By)) : Bool := l.all fun x => decide (x.1 < M.secs.length) && decide (x.2.length = 128)
def Mm.wr (M : Mm) (l : List (Nat × By)) : Int × Mm :=
 if M.fuse = 0 then (10, M) else if 64 < l.length then (8, M) else if M.fits l = true then (0, { M.puts l with fuse := max (M.fuse - 1) (-1) }) else (1, M)
/-- Writes in lists of at most 64. -/
def wrsV : Nat → Mm → List (Nat × By) → Int × Mm
 | 0, M, _ => (0, M)
 | f + 1, M, l => if l = [] then (0, M) else let r := M.wr (l.take 64); if r.1 ≠ 0 then r else wrsV f r.2 (l.drop 64)
def Mm.wrs (M : Mm) (l : List (Nat × By)) : Int × Mm := wrsV l.length M l
def dupL (F : Mm) (h : Hw) : List (Nat × By) := (List.range' 1 (h.n - 1)).filterMap fun k => (F.rd k).map fun s => (k, s)
def dupV (T F : Mm) (h : Hw) : Int × Mm := let r := T.wrs (dupL F h); if r.1 ≠ 0 then r else r.2.wr [(0, h.s)]

/-! ### The functions of the log -/
abbrev Cp := Option Mm
def opC (c : Cp) (k : Nat) : Option By := c.bind fun M => (M.rd k).bind openL
def hdC (c : Cp) : Option Hw := (opC c 0).bind hwD
structure BgR where
 h : Hw
 e : Int
 a : Cp
 b : Cp
def hwZ : Hw := ⟨0, 0, 0, 0, 0⟩
def bgA (A B : Cp) (x : Hw) : BgR := match B, A with
 | some N, some M => ⟨x, (dupV N M x).1, A, some (dupV N M x).2⟩
 | _, _ => ⟨x, 0, A, B⟩
def bgB (A B : Cp) (y : Hw) : BgR := match A, B with
 | some M, some N => ⟨y, (dupV M N y).1, some (dupV M N y).2, B⟩
 | _, _ => ⟨y, 0, A, B⟩
def beginV (A B : Cp) : BgR :=
 if A.isNone ∧ B.isNone then ⟨hwZ, 1, A, B⟩ else match hdC A, hdC B with
 | none, none => ⟨hwZ, 18, A, B⟩
 | some x, none => bgA A B x
 | none, some y => bgB A B y
 | some x, some y => if x.newer y = true then bgA A B x else if y.newer x = true then bgB A B y else ⟨x, 0, A, B⟩
def pcC (c : Cp) (k number index : Nat) : Option Pc := ((opC c k).bind pcD).bind fun p => if p.num = number ∧ p.idx = index then some p else none
def getC (c : Cp) (k number index len sum : Nat) : Option Pc := (pcC c k number index).bind fun p => if index = 0 ∨ (p.len = len ∧ p.sum = sum) then some p else none
def getV (A B : Cp) (k number index len sum : Nat) : Option Pc := match getC A k number index len sum with
 | some p => some p
 | none => getC B k number index len sum
def moreW (A B : Cp) (h : Hw) (at' number len sum : Nat) : Nat → Nat → By → Option By
 | 0, _, s => some s
 | f + 1, i, s => match getV A B (h.place at' i) number i len sum with
   | none => none
   | some p => moreW A B h at' number len sum f (i + 1) (s ++ p.dat)
def recW (A B : Cp) (h : Hw) (at' number : Nat) : Option (Rc × Nat) := match getV A B at' number 0 0 0 with
 | none => none
 | some p => if 16384 < p.len then none else match moreW A B h at' number p.len p.sum (cntW p.len - 1) 1 p.dat with
   | none => none
   | some s => match rcD s with
     | none => none
     | some r => if r.num = number ∧ sumN s = p.sum then some (r, cntW p.len) else none
/-- The records that are visited as long as `p` holds, with their places and sizes; whether no error came. -/
def walkW (A B : Cp) (h : Hw) (p : Rc → Bool) : Nat → Nat → Nat → List (Rc × Nat × Nat) × Bool
 | 0, _, _ => ([], true)
 | f + 1, at', number => if number < h.next then match recW A B h at' number with
     | none => ([], false)
     | some (r, n) => if p r = true then let q := walkW A B h p f (h.place at' n) (r.last.toNat + 1); ((r, at', n) :: q.1, q.2) else ([], true)
   else ([], true)
def walkV (A B : Cp) (h : Hw) (p : Rc → Bool) : List (Rc × Nat × Nat) × Bool := walkW A B h p (h.next - h.first) h.at' h.first
def eachV (f : Mm → Int × Mm) (A B : Cp) : Int × Cp × Cp := match A with
 | none => match B with
   | none => (0, none, none)
   | some N => ((f N).1, none, some (f N).2)
 | some M => if (f M).1 ≠ 0 then ((f M).1, some (f M).2, B) else match B with
   | none => (0, some (f M).2, none)
   | some N => ((f N).1, some (f M).2, some (f N).2)
def headsV (A B : Cp) (h : Hw) : Int × Cp × Cp := eachV (fun M => M.wr [(0, h.s)]) A B
def listW (h : Hw) (number : Nat) (s : By) : List (Nat × By) := (List.range (cntW s.length)).map fun i => (h.place h.at' (h.used + i), pieceS number i s)
def Hw.more (h : Hw) (r : Rc) : Hw := { h with next := r.last.toNat + 1, used := h.used + cntW r.b.length }
def addV (A B : Cp) (h : Hw) (r : Rc) : Int × Cp × Cp :=
 eachV (fun M => let q := M.wrs (listW h r.num.toNat r.b); if q.1 ≠ 0 then q else q.2.wr [(0, (h.more r).s)]) A B
/-- Append: the number, the error, the copies. -/
def appendV (A B : Cp) (unit : Int) (l : List Ch) : (Int × Int) × Cp × Cp :=
 let g := beginV A B
 if g.e ≠ 0 then ((0, g.e), g.a, g.b) else
 let r : Rc := ⟨g.h.next, unit, l⟩
 if r.sound = false then ((0, 1), g.a, g.b) else if 16384 < r.b.length then ((0, 8), g.a, g.b) else
 if g.h.free < cntW r.b.length then ((0, 14), g.a, g.b) else
 let q := addV g.a g.b g.h r
 ((if q.1 ≠ 0 then 0 else r.num, q.1), q.2)
def readV (A B : Cp) (frm : Int) : (List Rc × Int) × Cp × Cp :=
 let g := beginV A B
 if g.e ≠ 0 then (([], g.e), g.a, g.b) else
 if max frm 1 < (g.h.first : Int) then (([], 18), g.a, g.b) else
 let q := walkV g.a g.b g.h (fun _ => true)
 if q.2 = true then (((q.1.map (·.1)).filter (fun r => decide (frm ≤ r.last)), 0), g.a, g.b) else (([], 11), g.a, g.b)
def restW (h : Hw) (l : List (Rc × Nat × Nat)) : Hw := l.foldl (fun g x => { g with first := x.1.last.toNat + 1, at' := h.place x.2.1 x.2.2, used := g.used - x.2.2 }) h
def trimV (A B : Cp) (upto : Int) : Int × Cp × Cp :=
 let g := beginV A B
 if g.e ≠ 0 then (g.e, g.a, g.b) else
 let q := walkV g.a g.b g.h (fun r => decide (r.last ≤ upto))
 if q.2 = false then (11, g.a, g.b) else if q.1 = [] then (0, g.a, g.b) else headsV g.a g.b (restW g.h q.1)
end

section
open Go.RowKit Go.Sort

/-- A sector of a copy can be read and says s; or the copy is no help there. -/
def Rdy (c : Cp) (k : Nat) (s : By) : Prop := ∃ M, c = some M ∧ M.rd k = some s
def Out (c : Cp) (k : Nat) : Prop := opC c k = none
/-- One of both copies says s at sector k, and no copy says anything else. -/
def Says (A B : Cp) (k : Nat) (s : By) : Prop := Rdy A k s ∨ (Out A k ∧ Rdy B k s)
theorem opC_rdy {c : Cp} {k : Nat} {s : By} (h : Rdy c k (sectL s)) : opC c k = some (padL s) := by
 obtain ⟨M, rfl, h⟩ := h
 simp [opC, h, open_sect]
theorem getC_rdy {c : Cp} {k num i len sum : Nat} {s : By} (h : Rdy c k (pieceS num i s)) (h1 : num ≤ 1099511627776) (h2 : i ≤ 1000) (h3 : s.length ≤ 16384) (hl : i = 0 ∨ (s.length = len ∧ sumN s = sum)) :
   getC c k num i len sum = some ⟨num, i, s.length, sumN s, chunkW s i⟩ := by
 unfold getC pcC
 rw [opC_rdy h]
 simp only [Option.bind_some]
 rw [pcD_piece num i s h1 h2 h3]
 simp [hl]
theorem getC_out {c : Cp} {k num i len sum : Nat} (h : Out c k) : getC c k num i len sum = none := by
 unfold getC pcC
 rw [show opC c k = none from h]
 rfl
theorem getV_says {A B : Cp} {k num i len sum : Nat} {s : By} (h : Says A B k (pieceS num i s)) (h1 : num ≤ 1099511627776) (h2 : i ≤ 1000) (h3 : s.length ≤ 16384) (hl : i = 0 ∨ (s.length = len ∧ sumN s = sum)) :
   getV A B k num i len sum = some ⟨num, i, s.length, sumN s, chunkW s i⟩ := by
 unfold getV
 rcases h with h | ⟨h, h'⟩
 · rw [getC_rdy h h1 h2 h3 hl]
 · rw [getC_out h, getC_rdy h' h1 h2 h3 hl]
theorem cntW_le {n : Nat} (h : n ≤ 16384) : cntW n ≤ 171 := by unfold cntW; omega
theorem more_says {A B : Cp} {h : Hw} {at' num : Nat} {s : By} (h1 : num ≤ 1099511627776) (h3 : s.length ≤ 16384) (hs : ∀ i, i < cntW s.length → Says A B (h.place at' i) (pieceS num i s)) :
   ∀ (f i : Nat), i + f = cntW s.length → moreW A B h at' num s.length (sumN s) f i (s.take (96 * i)) = some s
 | 0, i, hi => by
   rw [moreW, List.take_of_length_le (by unfold cntW at hi; omega)]
 | f + 1, i, hi => by
   have hc := cntW_le h3
   rw [moreW, getV_says (hs i (by omega)) h1 (by omega) h3 (Or.inr ⟨rfl, rfl⟩)]
   simp only
   have e : s.take (96 * i) ++ chunkW s i = s.take (96 * (i + 1)) := by rw [show 96 * (i + 1) = 96 * i + 96 by omega, List.take_add]; rfl
   rw [e, more_says h1 h3 hs f (i + 1) (by omega)]
theorem Rc.b_pos (r : Rc) : 0 < r.b.length := by
 have := num_pos (r.lr none 0).num.toNat
 unfold Rc.b lrB
 simp only [List.length_append]; omega
theorem Rc.valid_iff {r : Rc} : r.valid = true ↔ r.sound = true ∧ r.b.length ≤ 16384 := by
 unfold Rc.valid validR Rc.sound Rc.b
 simp
theorem Rc.valid_num {r : Rc} (h : r.valid = true) : (1 ≤ r.num ∧ r.num + r.l.length - 1 ≤ 1099511627776) ∧ 1 ≤ r.l.length ∧ r.l.length ≤ 300 := by
 obtain ⟨⟨_, h2, h3, h4⟩, _⟩ := sound_of (Rc.valid_iff.1 h).1
 exact ⟨⟨h3, h4⟩, h2⟩
theorem recW_says {A B : Cp} {h : Hw} {at' : Nat} {r : Rc} (hv : r.valid = true) (hat : h.place at' 0 = at') (hs : ∀ i, i < cntW r.b.length → Says A B (h.place at' i) (pieceS r.num.toNat i r.b)) :
   recW A B h at' r.num.toNat = some (r, cntW r.b.length) := by
 obtain ⟨hn, hl⟩ := Rc.valid_num hv
 have hb := (Rc.valid_iff.1 hv).2
 have hp := r.b_pos
 have hc : 1 ≤ cntW r.b.length := by unfold cntW; omega
 have h0 := hs 0 (by omega)
 rw [hat] at h0
 unfold recW
 rw [getV_says h0 (by omega) (by omega) hb (Or.inl rfl)]
 simp only
 rw [if_neg (by omega)]
 have e : chunkW r.b 0 = r.b.take (96 * 1) := by simp [chunkW]
 rw [e, more_says (by omega) hb hs (cntW r.b.length - 1) 1 (by omega)]
 simp only
 rw [rcD_b r hv]
 simp only
 rw [if_pos ⟨by omega, trivial⟩]

/-! ### Lists of records in the ring -/
/-- The records have successive numbers from first to next. -/
def Chain : Nat → List Rc → Nat → Prop
 | first, [], next => first = next
 | first, r :: l, next => r.valid = true ∧ r.num = first ∧ Chain (r.last.toNat + 1) l next
def ringW : List Rc → List By
 | [] => []
 | r :: l => piecesL r.num.toNat r.b ++ ringW l
def roomW : List Rc → Nat
 | [] => 0
 | r :: l => cntW r.b.length + roomW l
theorem ringW_len : ∀ l, (ringW l).length = roomW l
 | [] => rfl
 | r :: l => by rw [ringW, List.length_append, ringW_len l, roomW]; simp [piecesL]
theorem ringW_app : ∀ a b, ringW (a ++ b) = ringW a ++ ringW b
 | [], b => rfl
 | r :: a, b => by rw [List.cons_append, ringW, ringW, ringW_app a b, List.append_assoc]
theorem roomW_app : ∀ a b, roomW (a ++ b) = roomW a + roomW b
 | [], b => by simp [roomW]
 | r :: a, b => by rw [List.cons_append, roomW, roomW, roomW_app a b, Nat.add_assoc]
/-- The records with their places and sizes. -/
def posW (h : Hw) : Nat → List Rc → List (Rc × Nat × Nat)
 | _, [] => []
 | at', r :: l => (r, at', cntW r.b.length) :: posW h (h.place at' (cntW r.b.length)) l
theorem posW_map (h : Hw) : ∀ (at' : Nat) (l : List Rc), (posW h at' l).map (·.1) = l
 | _, [] => rfl
 | at', r :: l => by rw [posW, List.map_cons, posW_map h _ l]
theorem place_zero {h : Hw} {at' : Nat} (h1 : 1 ≤ at') (h2 : at' < h.n) : h.place at' 0 = at' := by
 unfold Hw.place
 rw [Nat.add_zero, Nat.mod_eq_of_lt (by omega)]; omega
theorem place_add {h : Hw} (at' a b : Nat) : h.place (h.place at' a) b = h.place at' (a + b) := by
 unfold Hw.place
 rw [Nat.add_sub_cancel, Nat.mod_add_mod, Nat.add_assoc]
theorem place_lt {h : Hw} (hn : 2 ≤ h.n) (at' a : Nat) : 1 ≤ h.place at' a ∧ h.place at' a < h.n := by
 unfold Hw.place
 have := Nat.mod_lt (at' - 1 + a) (show 0 < h.n - 1 by omega)
 omega
theorem Rc.last_eq {r : Rc} (h : r.valid = true) : r.last.toNat + 1 = r.num.toNat + r.l.length ∧ 0 ≤ r.last := by
 obtain ⟨hn, hl⟩ := Rc.valid_num h
 unfold Rc.last
 omega
theorem chain_le : ∀ {l : List Rc} {a b : Nat}, Chain a l b → a + l.length ≤ b
 | [], a, b, h => by simp [Chain] at h; simp; omega
 | r :: l, a, b, h => by
   obtain ⟨hv, hn, hc⟩ := h
   have h1 := chain_le hc
   have h2 := Rc.last_eq hv
   have h3 := (Rc.valid_num hv).2
   rw [List.length_cons]; omega
/-- The walk over a ring that holds the records. -/
theorem walkW_says {A B : Cp} {h : Hw} {p : Rc → Bool} (hn : 2 ≤ h.n) : ∀ (l : List Rc) (f at' num : Nat), Chain num l h.next → l.length ≤ f → 1 ≤ at' → at' < h.n →
   (∀ i (hi : i < (ringW l).length), Says A B (h.place at' i) (ringW l)[i]) → walkW A B h p f at' num = (posW h at' (l.takeWhile p), true)
 | [], f, at', num, hc, hf, h1, h2, hs => by
   have : num = h.next := hc
   subst this
   cases f with
   | zero => rfl
   | succ f => rw [walkW, if_neg (by omega)]; rfl
 | r :: l, 0, at', num, hc, hf, h1, h2, hs => by simp at hf
 | r :: l, f + 1, at', num, hc, hf, h1, h2, hs => by
   have hle := chain_le hc
   obtain ⟨hv, hnum, hc'⟩ := hc
   have hnr : r.num.toNat = num := by omega
   rw [List.length_cons] at hle
   have hpl : (piecesL r.num.toNat r.b).length = cntW r.b.length := by simp [piecesL]
   have hr : recW A B h at' num = some (r, cntW r.b.length) := by
     rw [← hnr]
     refine recW_says hv (place_zero h1 h2) (fun i hi => ?_)
     have h3 : i < (ringW (r :: l)).length := by rw [ringW, List.length_append, hpl]; omega
     have h4 := hs i h3
     have e : (ringW (r :: l))[i] = pieceS r.num.toNat i r.b := by
       simp only [ringW]
       rw [List.getElem_append_left (by rw [hpl]; exact hi)]
       simp [piecesL]
     rwa [e] at h4
   rw [walkW, if_pos (by omega), hr]
   simp only
   by_cases hp : p r = true
   · rw [if_pos hp, List.takeWhile_cons_of_pos hp, posW]
     have hpos := place_lt hn at' (cntW r.b.length)
     rw [walkW_says hn l f (h.place at' (cntW r.b.length)) (r.last.toNat + 1) hc' (by simp at hf; omega) hpos.1 hpos.2 (fun i hi => by
       rw [place_add]
       have h3 : cntW r.b.length + i < (ringW (r :: l)).length := by rw [ringW, List.length_append, hpl]; omega
       have h4 := hs _ h3
       have e : (ringW (r :: l))[cntW r.b.length + i] = (ringW l)[i] := by
         simp only [ringW]
         rw [List.getElem_append_right (by rw [hpl]; omega)]
         simp only [hpl, Nat.add_sub_cancel_left]
       rwa [e] at h4)]
   · rw [if_neg hp, List.takeWhile_cons_of_neg hp]; rfl
end

section
open Go.RowKit Go.Sort

/-! ### Writes -/
def setsL (s : List By) (l : List (Nat × By)) : List By := l.foldl (fun s x => s.set x.1 x.2) s
theorem setsL_cons (s : List By) (x : Nat × By) (l : List (Nat × By)) : setsL s (x :: l) = setsL (s.set x.1 x.2) l := rfl
theorem setsL_app (s : List By) (l m : List (Nat × By)) : setsL s (l ++ m) = setsL (setsL s l) m := by simp [setsL]
theorem setsL_len : ∀ (l : List (Nat × By)) (s : List By), (setsL s l).length = s.length
 | [], _ => rfl
 | x :: l, s => by rw [setsL_cons, setsL_len l, List.length_set]
theorem setsL_out : ∀ (l : List (Nat × By)) (s : List By) (k : Nat), (∀ x ∈ l, x.1 ≠ k) → (setsL s l)[k]? = s[k]?
 | [], _, _, _ => rfl
 | x :: l, s, k, h => by
   rw [setsL_cons, setsL_out l _ k (fun y hy => h y (by simp [hy])), List.getElem?_set_ne (h x (by simp))]
theorem setsL_in : ∀ (l : List (Nat × By)) (s : List By) (k : Nat) (d : By), (k, d) ∈ l → k < s.length → (∀ x ∈ l, x.1 = k → x.2 = d) → (setsL s l)[k]? = some d
 | [], _, _, _, h, _, _ => by cases h
 | x :: l, s, k, d, h, hk, ho => by
   rw [setsL_cons]
   by_cases hm : (k, d) ∈ l
   · exact setsL_in l _ k d hm (by rw [List.length_set]; exact hk) (fun y hy => ho y (by simp [hy]))
   · rcases List.mem_cons.1 h with rfl | h
     · rw [setsL_out l _ k (fun y hy e => hm (by have := ho y (by simp [hy]) e; rw [← e, ← this]; exact hy))]
       simp [hk]
     · exact absurd h hm
theorem puts_secs : ∀ (l : List (Nat × By)) (M : Mm), (M.puts l).secs = setsL M.secs l
 | [], _ => rfl
 | x :: l, M => by rw [show M.puts (x :: l) = (M.put x).puts l from rfl, puts_secs l, setsL_cons]; rfl
theorem puts_bad : ∀ (l : List (Nat × By)) (M : Mm) (k : Nat), (M.puts l).bad k = (if ∃ x ∈ l, x.1 = k then false else M.bad k)
 | [], _, _ => by simp [Mm.puts]
 | x :: l, M, k => by
   rw [show M.puts (x :: l) = (M.put x).puts l from rfl, puts_bad l]
   by_cases h : ∃ y ∈ l, y.1 = k
   · obtain ⟨y, hy, e⟩ := h
     rw [if_pos ⟨y, hy, e⟩, if_pos ⟨y, by simp [hy], e⟩]
   · rw [if_neg h]
     show (if k = x.1 then false else M.bad k) = _
     by_cases hx : k = x.1
     · rw [if_pos hx, if_pos ⟨x, by simp, hx.symm⟩]
     · rw [if_neg hx, if_neg]
       rintro ⟨y, hy, e⟩
       rcases List.mem_cons.1 hy with rfl | hy
       · exact hx e.symm
       · exact h ⟨y, hy, e⟩
theorem puts_fuse : ∀ (l : List (Nat × By)) (M : Mm), (M.puts l).fuse = M.fuse
 | [], _ => rfl
 | x :: l, M => by rw [show M.puts (x :: l) = (M.put x).puts l from rfl, puts_fuse l]; rfl
theorem fits_iff {M : Mm} {l : List (Nat × By)} : M.fits l = true ↔ ∀ x ∈ l, x.1 < M.secs.length ∧ x.2.length = 128 := by
 unfold Mm.fits; simp
/-- What a write leaves: the first k sectors of the list are written, all if there is no error. -/
structure Wrote (M : Mm) (l : List (Nat × By)) (e : Int) (N : Mm) (k : Nat) : Prop where
 secs : N.secs = setsL M.secs (l.take k)
 bad : ∀ j, N.bad j = (if ∃ x ∈ l.take k, x.1 = j then false else M.bad j)
 all : e = 0 → l.take k = l
 fuse : M.fuse = -1 → e = 0 ∧ N.fuse = -1
theorem wr_wrote {M : Mm} {l : List (Nat × By)} (hf : M.fits l = true) (hl : l.length ≤ 64) : ∃ k, Wrote M l (M.wr l).1 (M.wr l).2 k := by
 unfold Mm.wr
 by_cases h : M.fuse = 0
 · rw [if_pos h]
   exact ⟨0, by simp [setsL], by simp, fun e => by simp at e, fun e => by omega⟩
 · rw [if_neg h, if_neg (by omega), if_pos hf]
   exact ⟨l.length, by rw [List.take_length]; exact puts_secs l M, by rw [List.take_length]; exact fun j => puts_bad l M j, fun _ => List.take_length, fun e => ⟨rfl, by show max (M.fuse - 1) (-1) = -1; omega⟩⟩
theorem Wrote.fits {M N : Mm} {l m : List (Nat × By)} {e : Int} {k : Nat} (h : Wrote M l e N k) (hm : M.fits m = true) : N.fits m = true := by
 rw [fits_iff] at hm ⊢
 rw [h.secs, setsL_len]; exact hm
theorem Wrote.trans {M N O : Mm} {l m : List (Nat × By)} {e : Int} {k j : Nat} (h1 : Wrote M l 0 N k) (h2 : Wrote N m e O j) : ∃ i, Wrote M (l ++ m) e O i := by
 have hl := h1.all rfl
 have s1 := h1.secs
 have b1 := h1.bad
 rw [hl] at s1 b1
 have ht : (l ++ m).take (l.length + j) = l ++ m.take j := by
   simp only [List.take_append, Nat.add_sub_cancel_left]
   rw [List.take_of_length_le (by omega)]
 refine ⟨l.length + j, ?_, ?_, ?_, fun hf => ?_⟩
 · rw [h2.secs, s1, ht, setsL_app]
 · intro i
   rw [h2.bad, b1, ht]
   by_cases h : ∃ x ∈ m.take j, x.1 = i
   · obtain ⟨x, hx, e⟩ := h
     rw [if_pos ⟨x, hx, e⟩, if_pos ⟨x, List.mem_append_right _ hx, e⟩]
   · rw [if_neg h]
     by_cases h' : ∃ x ∈ l, x.1 = i
     · obtain ⟨x, hx, e⟩ := h'
       rw [if_pos ⟨x, hx, e⟩, if_pos ⟨x, List.mem_append_left _ hx, e⟩]
     · rw [if_neg h', if_neg]
       rintro ⟨x, hx, e⟩
       rcases List.mem_append.1 hx with hx | hx
       · exact h' ⟨x, hx, e⟩
       · exact h ⟨x, hx, e⟩
 · intro he
   rw [ht, h2.all he]
 · obtain ⟨_, f1⟩ := h1.fuse hf
   exact h2.fuse f1
theorem Wrote.left {M N : Mm} {l m : List (Nat × By)} {e : Int} {k : Nat} (h : Wrote M l e N k) (he : e ≠ 0) : ∃ i, Wrote M (l ++ m) e N i := by
 refine ⟨min k l.length, ?_, ?_, fun h0 => absurd h0 he, h.fuse⟩
 · rw [List.take_append_of_le_length (by omega), h.secs]
   congr 1
   rw [← List.take_take, List.take_length]
 · have e : (l ++ m).take (min k l.length) = l.take k := by
     rw [List.take_append_of_le_length (by omega), ← List.take_take, List.take_length]
   rw [e]; exact h.bad
theorem wrsV_wrote : ∀ (f : Nat) (M : Mm) (l : List (Nat × By)), M.fits l = true → l.length ≤ f → ∃ k, Wrote M l (wrsV f M l).1 (wrsV f M l).2 k
 | 0, M, l, hf, hl => by
   have : l = [] := List.length_eq_zero_iff.1 (by omega)
   subst this
   exact ⟨0, rfl, by simp [wrsV], fun _ => rfl, fun h => ⟨rfl, h⟩⟩
 | f + 1, M, l, hf, hl => by
   unfold wrsV
   by_cases h0 : l = []
   · subst h0
     exact ⟨0, rfl, by simp, fun _ => rfl, fun h => ⟨rfl, h⟩⟩
   · rw [if_neg h0]
     have hf1 : M.fits (l.take 64) = true := by rw [fits_iff] at hf ⊢; exact fun x hx => hf x (List.mem_of_mem_take hx)
     have hf2 : M.fits (l.drop 64) = true := by rw [fits_iff] at hf ⊢; exact fun x hx => hf x (List.mem_of_mem_drop hx)
     obtain ⟨k, hk⟩ := wr_wrote hf1 (by simp; omega)
     simp only
     by_cases he : (M.wr (l.take 64)).1 = 0
     · rw [if_neg (by simp [he])]
       rw [he] at hk
       obtain ⟨j, hj⟩ := wrsV_wrote f (M.wr (l.take 64)).2 (l.drop 64) (hk.fits hf2) (by
         have : 0 < l.length := List.length_pos_iff.2 h0
         rw [List.length_drop]; omega)
       have := hk.trans hj
       rwa [List.take_append_drop] at this
     · rw [if_pos he]
       have := hk.left (m := l.drop 64) he
       rwa [List.take_append_drop] at this
theorem wrs_wrote {M : Mm} {l : List (Nat × By)} (hf : M.fits l = true) : ∃ k, Wrote M l (M.wrs l).1 (M.wrs l).2 k := wrsV_wrote _ _ _ hf (Nat.le_refl _)
end

section
open Go.RowKit Go.Sort

theorem mod_step (c a m : Nat) (hm : 0 < m) (ha : a < m) : (c + a) % m = if c % m + a < m then c % m + a else c % m + a - m := by
 have h1 : (c + a) % m = (c % m + a) % m := by rw [Nat.mod_add_mod]
 have h2 := Nat.mod_lt c hm
 rw [h1]
 split
 · rename_i h; exact Nat.mod_eq_of_lt h
 · rename_i h
   rw [Nat.mod_eq_sub_mod (by omega), Nat.mod_eq_of_lt (by omega)]
theorem place_inj {h : Hw} {at' a b : Nat} (ha : a < h.n - 1) (hb : b < h.n - 1) (e : h.place at' a = h.place at' b) : a = b := by
 unfold Hw.place at e
 have h2 := Nat.mod_lt (at' - 1) (show 0 < h.n - 1 by omega)
 rw [mod_step _ a _ (by omega) ha, mod_step _ b _ (by omega) hb] at e
 split at e <;> split at e <;> omega

/-- A copy holds the log. -/
structure CpIs (h : Hw) (R : List Rc) (M : Mm) : Prop where
 len : h.n ≤ M.secs.length
 head : M.secs[0]? = some h.s
 body : ∀ j (hj : j < (ringW R).length), M.secs[h.place h.at' j]? = some (ringW R)[j]
structure LgOk (h : Hw) (R : List Rc) : Prop where
 ok : HwOk h
 first : 1 ≤ h.first
 chain : Chain h.first R h.next
 used : roomW R = h.used
def Clean (M : Mm) : Prop := ∀ k, M.bad k = false
theorem rd_clean {M : Mm} {k : Nat} (h : M.bad k = false) : M.rd k = M.secs[k]? := by simp [Mm.rd, h]
theorem hdC_is {h : Hw} {R : List Rc} {M : Mm} (hm : CpIs h R M) (ok : HwOk h) (hb : M.bad 0 = false) : hdC (some M) = some h := by
 unfold hdC
 rw [opC_rdy ⟨M, rfl, by rw [rd_clean hb, hm.head]; rfl⟩]
 exact hwD_b h ok
theorem newer_irr (h : Hw) : h.newer h = false := by simp [Hw.newer]
/-- A log in two copies, or in one. -/
structure Log (A B : Cp) (h : Hw) (R : List Rc) : Prop where
 ok : LgOk h R
 a : ∀ M, A = some M → CpIs h R M ∧ Clean M ∧ M.fuse = -1
 b : ∀ M, B = some M → CpIs h R M ∧ Clean M ∧ M.fuse = -1
 one : ¬ (A.isNone ∧ B.isNone)
theorem Log.begin {A B : Cp} {h : Hw} {R : List Rc} (L : Log A B h R) : beginV A B = ⟨h, 0, A, B⟩ := by
 unfold beginV
 rw [if_neg L.one]
 have one := L.one
 match A, B, L with
 | none, none, _ => simp at one
 | some M, none, L =>
   obtain ⟨h1, h2, _⟩ := L.a M rfl
   rw [hdC_is h1 L.ok.ok (h2 0)]
   rfl
 | none, some N, L =>
   obtain ⟨h1, h2, _⟩ := L.b N rfl
   rw [hdC_is h1 L.ok.ok (h2 0)]
   rfl
 | some M, some N, L =>
   obtain ⟨h1, h2, _⟩ := L.a M rfl
   obtain ⟨h3, h4, _⟩ := L.b N rfl
   rw [hdC_is h1 L.ok.ok (h2 0), hdC_is h3 L.ok.ok (h4 0)]
   simp [newer_irr]
theorem CpIs.rdy {h : Hw} {R : List Rc} {M : Mm} (hm : CpIs h R M) (hc : Clean M) (j : Nat) (hj : j < (ringW R).length) : Rdy (some M) (h.place h.at' j) (ringW R)[j] :=
 ⟨M, rfl, by rw [rd_clean (hc _), hm.body j hj]⟩
theorem Log.says {A B : Cp} {h : Hw} {R : List Rc} (L : Log A B h R) (j : Nat) (hj : j < (ringW R).length) : Says A B (h.place h.at' j) (ringW R)[j] := by
 have one := L.one
 match A, B, L with
 | none, none, _ => simp at one
 | some M, _, L => exact Or.inl ((L.a M rfl).1.rdy (L.a M rfl).2.1 j hj)
 | none, some N, L => exact Or.inr ⟨rfl, (L.b N rfl).1.rdy (L.b N rfl).2.1 j hj⟩
theorem Log.walk {A B : Cp} {h : Hw} {R : List Rc} (L : Log A B h R) (p : Rc → Bool) : walkV A B h p = (posW h h.at' (R.takeWhile p), true) := by
 have hn := L.ok.ok.n
 have hle := chain_le L.ok.chain
 exact walkW_says (by omega) R _ _ _ L.ok.chain (by omega) L.ok.ok.at'.1 L.ok.ok.at'.2 (fun i hi => L.says i hi)
theorem chain_app : ∀ {a b : List Rc} {x z : Nat}, Chain x (a ++ b) z ↔ ∃ y, Chain x a y ∧ Chain y b z
 | [], b, x, z => by simp [Chain]
 | r :: a, b, x, z => by
   rw [List.cons_append]
   show (r.valid = true ∧ r.num = x ∧ Chain (r.last.toNat + 1) (a ++ b) z) ↔ _
   rw [chain_app]
   constructor
   · rintro ⟨h1, h2, y, h3, h4⟩; exact ⟨y, ⟨h1, h2, h3⟩, h4⟩
   · rintro ⟨y, ⟨h1, h2, h3⟩, h4⟩; exact ⟨h1, h2, y, h3, h4⟩

/-! ### A record more -/
theorem listW_mem {h : Hw} {number : Nat} {s : By} {x : Nat × By} (hx : x ∈ listW h number s) : ∃ i, i < cntW s.length ∧ x = (h.place h.at' (h.used + i), pieceS number i s) := by
 unfold listW at hx
 rw [List.mem_map] at hx
 obtain ⟨i, hi, rfl⟩ := hx
 exact ⟨i, List.mem_range.1 hi, rfl⟩
theorem listW_fits {h : Hw} {R : List Rc} {M : Mm} {r : Rc} (hm : CpIs h R M) (ok : HwOk h) (hv : r.valid = true) : M.fits (listW h r.num.toNat r.b) = true := by
 rw [fits_iff]
 intro x hx
 obtain ⟨i, hi, rfl⟩ := listW_mem hx
 have h1 := place_lt (h := h) (by have := ok.n; omega) h.at' (h.used + i)
 have h2 := Rc.valid_num hv
 have h3 := (Rc.valid_iff.1 hv).2
 have h4 := cntW_le h3
 exact ⟨by have := hm.len; show h.place _ _ < _; omega, pieceS_len _ _ _ (by omega) (by omega) h3⟩
theorem more_ok {h : Hw} {R : List Rc} {r : Rc} (ok : LgOk h R) (hv : r.valid = true) (hn : r.num = (h.next : Int)) (hs : cntW r.b.length ≤ h.free) : LgOk (h.more r) (R ++ [r]) := by
 have h1 := Rc.last_eq hv
 have h2 := Rc.valid_num hv
 have h3 := ok.ok.used
 refine ⟨⟨ok.ok.n, ok.ok.first, ?_, ok.ok.at', ?_⟩, ok.first, ?_, ?_⟩
 · show r.last.toNat + 1 ≤ _
   omega
 · show h.used + cntW r.b.length ≤ h.n - 1
   unfold Hw.free at hs; omega
 · rw [chain_app]
   exact ⟨h.next, ok.chain, hv, hn, rfl⟩
 · rw [roomW_app, ok.used]
   show h.used + (cntW r.b.length + 0) = _
   rfl
/-- A write of the head. -/
theorem head_is {h g : Hw} {R S : List Rc} {M : Mm} (hn : g.n = h.n) (ok : HwOk g) (hm : CpIs h R M) (hb : ∀ j (hj : j < (ringW S).length), M.secs[g.place g.at' j]? = some (ringW S)[j]) :
   let q := M.wr [(0, g.s)]
   (q.1 = 0 → CpIs g S q.2) ∧ (q.1 ≠ 0 → q.2 = M) ∧ (Clean M → Clean q.2) ∧ (M.fuse = -1 → q.1 = 0 ∧ q.2.fuse = -1) ∧ q.2.secs.length = M.secs.length := by
 have hl := hm.len
 have h16 := ok.n
 have hsl : g.s.length = 128 := sectL_len _ (by have := g.b_len ok; omega)
 have hf : M.fits [(0, g.s)] = true := by rw [fits_iff]; intro x hx; simp at hx; subst hx; exact ⟨by show 0 < M.secs.length; omega, hsl⟩
 have hsame : (M.wr [(0, g.s)]).1 ≠ 0 → (M.wr [(0, g.s)]).2 = M := by
   unfold Mm.wr
   intro h
   by_cases h1 : M.fuse = 0
   · rw [if_pos h1]
   · rw [if_neg h1, if_neg (by simp), if_pos hf] at h
     exact absurd rfl h
 obtain ⟨k, hk⟩ := wr_wrote hf (by simp)
 refine ⟨fun e => ?_, hsame, fun hc j => ?_, hk.fuse, by rw [hk.secs, setsL_len]⟩
 · have hs := hk.secs
   rw [hk.all e] at hs
   refine ⟨by rw [hs, setsL_len]; omega, ?_, fun j hj => ?_⟩
   · rw [hs]; exact setsL_in _ _ 0 _ (by simp) (by omega) (by simp)
   · rw [hs, setsL_out _ _ _ (by
       intro x hx; simp at hx; subst hx
       have := place_lt (h := g) (by omega) g.at' j
       show 0 ≠ _; omega)]
     exact hb j hj
 · rw [hk.bad, hc j]; simp
def addM (h : Hw) (r : Rc) (M : Mm) : Int × Mm := let q := M.wrs (listW h r.num.toNat r.b); if q.1 ≠ 0 then q else q.2.wr [(0, (h.more r).s)]
theorem addV_eq (A B : Cp) (h : Hw) (r : Rc) : addV A B h r = eachV (addM h r) A B := rfl
theorem addM_is {h : Hw} {R : List Rc} {r : Rc} {M : Mm} (ok : LgOk h R) (hv : r.valid = true) (hn : r.num = (h.next : Int)) (hs : cntW r.b.length ≤ h.free) (hm : CpIs h R M) :
   ((addM h r M).1 = 0 → CpIs (h.more r) (R ++ [r]) (addM h r M).2) ∧ ((addM h r M).1 ≠ 0 → CpIs h R (addM h r M).2) ∧ (Clean M → Clean (addM h r M).2) ∧ (M.fuse = -1 → (addM h r M).1 = 0 ∧ (addM h r M).2.fuse = -1) ∧
     (addM h r M).2.secs.length = M.secs.length := by
 have hok := more_ok ok hv hn hs
 have h16 := ok.ok.n
 have hl := hm.len
 have hrl : (ringW R).length = h.used := by rw [ringW_len, ok.used]
 have hus := ok.ok.used
 have hfr : h.used + cntW r.b.length ≤ h.n - 1 := by unfold Hw.free at hs; omega
 obtain ⟨k, hk⟩ := wrs_wrote (listW_fits hm ok.ok hv)
 unfold addM
 generalize M.wrs (listW h r.num.toNat r.b) = q at hk ⊢
 obtain ⟨e, N⟩ := q
 simp only at hk ⊢
 have hlen : N.secs.length = M.secs.length := by rw [hk.secs, setsL_len]
 have hout : ∀ p, p = 0 ∨ (∃ j, j < h.used ∧ p = h.place h.at' j) → N.secs[p]? = M.secs[p]? := by
   intro p hp
   rw [hk.secs]
   refine setsL_out _ _ _ (fun x hx => ?_)
   obtain ⟨i, hi, rfl⟩ := listW_mem (List.mem_of_mem_take hx)
   have h1 := place_lt (h := h) (by omega) h.at' (h.used + i)
   rcases hp with rfl | ⟨j, hj, rfl⟩
   · show h.place _ _ ≠ 0; omega
   · intro e
     have := place_inj (by omega) (by omega) e
     omega
 have hN : CpIs h R N := ⟨by omega, by rw [hout 0 (Or.inl rfl)]; exact hm.head, fun j hj => by rw [hout _ (Or.inr ⟨j, by omega, rfl⟩)]; exact hm.body j hj⟩
 have hcl : Clean M → Clean N := fun hc j => by rw [hk.bad, hc j]; simp
 by_cases he : e = 0
 · subst he
   rw [if_neg (by simp)]
   have hall := hk.all rfl
   have hb : ∀ j (hj : j < (ringW (R ++ [r])).length), N.secs[(h.more r).place (h.more r).at' j]? = some (ringW (R ++ [r]))[j] := by
     intro j hj
     show N.secs[h.place h.at' j]? = _
     simp only [ringW_app, ringW, List.append_nil] at hj ⊢
     rw [List.length_append] at hj
     have hpl : (piecesL r.num.toNat r.b).length = cntW r.b.length := by simp [piecesL]
     by_cases hju : j < h.used
     · rw [List.getElem_append_left (by omega)]
       exact hN.body j (by omega)
     · rw [List.getElem_append_right (by omega)]
       obtain ⟨i, rfl⟩ : ∃ i, j = h.used + i := ⟨j - h.used, by omega⟩
       have hi : i < cntW r.b.length := by omega
       rw [hk.secs, hall]
       have h1 := place_lt (h := h) (by omega) h.at' (h.used + i)
       have e2 : (piecesL r.num.toNat r.b)[h.used + i - (ringW R).length]'(by omega) = pieceS r.num.toNat i r.b := by
         simp only [piecesL, List.getElem_map, List.getElem_range, hrl, Nat.add_sub_cancel_left]
       rw [e2]
       refine setsL_in _ _ _ _ ?_ (by omega) (fun x hx e => ?_)
       · unfold listW; exact List.mem_map.2 ⟨i, List.mem_range.2 hi, rfl⟩
       · obtain ⟨i', hi', rfl⟩ := listW_mem hx
         have := place_inj (by omega) (by omega) e
         have : i' = i := by omega
         subst this; rfl
   obtain ⟨q1, q2, q3, q4, q5⟩ := head_is (h := h) (g := h.more r) (S := R ++ [r]) rfl hok.ok hN hb
   refine ⟨q1, fun h0 => ?_, fun hc => q3 (hcl hc), fun hf => q4 (hk.fuse hf).2, by rw [q5, hlen]⟩
   rw [q2 h0]; exact hN
 · rw [if_pos he]
   exact ⟨fun h0 => absurd h0 he, fun _ => hN, hcl, hk.fuse, hlen⟩
/-- What is done with each copy that is there, without an error. -/
theorem Log.each {A B : Cp} {h g : Hw} {R S : List Rc} {f : Mm → Int × Mm} (L : Log A B h R) (ok : LgOk g S) (hf : ∀ M, CpIs h R M → Clean M → M.fuse = -1 → (f M).1 = 0 ∧ CpIs g S (f M).2 ∧ Clean (f M).2 ∧ (f M).2.fuse = -1) :
   ∃ A' B', eachV f A B = (0, A', B') ∧ Log A' B' g S ∧ A'.isNone = A.isNone ∧ B'.isNone = B.isNone := by
 have one := L.one
 match A, B, L with
 | none, none, _ => simp at one
 | some M, none, L =>
   obtain ⟨h1, h2, h3⟩ := L.a M rfl
   obtain ⟨k1, k2, k3, k4⟩ := hf M h1 h2 h3
   refine ⟨some (f M).2, none, by simp [eachV, k1], ⟨ok, fun M' e => ?_, fun M' e => (by cases e), by simp⟩, rfl, rfl⟩
   cases e; exact ⟨k2, k3, k4⟩
 | none, some N, L =>
   obtain ⟨h1, h2, h3⟩ := L.b N rfl
   obtain ⟨k1, k2, k3, k4⟩ := hf N h1 h2 h3
   refine ⟨none, some (f N).2, by simp [eachV, k1], ⟨ok, fun M' e => (by cases e), fun M' e => ?_, by simp⟩, rfl, rfl⟩
   cases e; exact ⟨k2, k3, k4⟩
 | some M, some N, L =>
   obtain ⟨h1, h2, h3⟩ := L.a M rfl
   obtain ⟨k1, k2, k3, k4⟩ := hf M h1 h2 h3
   obtain ⟨m1, m2, m3⟩ := L.b N rfl
   obtain ⟨n1, n2, n3, n4⟩ := hf N m1 m2 m3
   refine ⟨some (f M).2, some (f N).2, by simp [eachV, k1, n1], ⟨ok, fun M' e => ?_, fun M' e => ?_, by simp⟩, rfl, rfl⟩
   · cases e; exact ⟨k2, k3, k4⟩
   · cases e; exact ⟨n2, n3, n4⟩
theorem Log.add {A B : Cp} {h : Hw} {R : List Rc} {r : Rc} (L : Log A B h R) (hv : r.valid = true) (hn : r.num = (h.next : Int)) (hs : cntW r.b.length ≤ h.free) :
   ∃ A' B', addV A B h r = (0, A', B') ∧ Log A' B' (h.more r) (R ++ [r]) ∧ A'.isNone = A.isNone ∧ B'.isNone = B.isNone := by
 rw [addV_eq]
 refine L.each (more_ok L.ok hv hn hs) (fun M h1 h2 h3 => ?_)
 obtain ⟨q1, _, q3, q4, _⟩ := addM_is L.ok hv hn hs h1
 exact ⟨(q4 h3).1, q1 (q4 h3).1, q3 h2, (q4 h3).2⟩
end

section
open Go.RowKit Go.Sort

theorem takeWhile_true {α : Type} : ∀ l : List α, l.takeWhile (fun _ => true) = l
 | [] => rfl
 | x :: l => by rw [List.takeWhile_cons_of_pos rfl, takeWhile_true l]
theorem restW_pos (h : Hw) (hn : 2 ≤ h.n) : ∀ (T : List Rc) (g : Hw) (mid : Nat), 1 ≤ g.at' → g.at' < h.n → Chain g.first T mid →
   (posW h g.at' T).foldl (fun g x => { g with first := x.1.last.toNat + 1, at' := h.place x.2.1 x.2.2, used := g.used - x.2.2 }) g = { g with first := mid, at' := h.place g.at' (roomW T), used := g.used - roomW T }
 | [], g, mid, h1, h2, hc => by
   have : g.first = mid := hc
   subst this
   have e : h.place g.at' 0 = g.at' := place_zero h1 h2
   simp [posW, roomW, e]
 | r :: T, g, mid, h1, h2, hc => by
   obtain ⟨hv, hnum, hc⟩ := hc
   have hp := place_lt hn g.at' (cntW r.b.length)
   rw [posW, List.foldl_cons]
   simp only
   have := restW_pos h hn T { g with first := r.last.toNat + 1, at' := h.place g.at' (cntW r.b.length), used := g.used - cntW r.b.length } mid hp.1 hp.2 hc
   simp only at this
   rw [this, place_add, roomW, Nat.sub_sub]
/-- The head behind a trim. -/
def Hw.cut (h : Hw) (T : List Rc) (mid : Nat) : Hw := { h with first := mid, at' := h.place h.at' (roomW T), used := h.used - roomW T }
theorem restW_cut {h : Hw} {T U : List Rc} {mid : Nat} (ok : LgOk h (T ++ U)) (hc : Chain h.first T mid) : restW h (posW h h.at' T) = h.cut T mid :=
 restW_pos h (by have := ok.ok.n; omega) T h mid ok.ok.at'.1 ok.ok.at'.2 hc
theorem ring_split (T U : List Rc) (j : Nat) (hj : j < (ringW U).length) : ∃ h : roomW T + j < (ringW (T ++ U)).length, (ringW (T ++ U))[roomW T + j] = (ringW U)[j] := by
 have hl : (ringW T).length = roomW T := ringW_len T
 refine ⟨by rw [ringW_app, List.length_append, hl]; omega, ?_⟩
 simp only [ringW_app]
 rw [List.getElem_append_right (by omega)]
 simp only [hl, Nat.add_sub_cancel_left]
theorem cut_ok {h : Hw} {T U : List Rc} {mid : Nat} (ok : LgOk h (T ++ U)) (h1 : Chain h.first T mid) (h2 : Chain mid U h.next) : LgOk (h.cut T mid) U := by
 have a := chain_le h1
 have b := chain_le h2
 have c := ok.ok.next
 have d := ok.used
 have e := ok.ok.used
 have f := ok.first
 rw [roomW_app] at d
 have g := place_lt (h := h) (by have := ok.ok.n; omega) h.at' (roomW T)
 exact ⟨⟨ok.ok.n, by show mid ≤ _; omega, c, g, by show h.used - roomW T ≤ h.n - 1; omega⟩, by show 1 ≤ mid; omega, h2, by show roomW U = h.used - roomW T; omega⟩
theorem Log.cut {A B : Cp} {h : Hw} {T U : List Rc} {mid : Nat} (L : Log A B h (T ++ U)) (h1 : Chain h.first T mid) (h2 : Chain mid U h.next) :
   ∃ A' B', headsV A B (h.cut T mid) = (0, A', B') ∧ Log A' B' (h.cut T mid) U ∧ A'.isNone = A.isNone ∧ B'.isNone = B.isNone := by
 have ok := cut_ok L.ok h1 h2
 refine L.each ok (fun M k1 k2 k3 => ?_)
 obtain ⟨q1, _, q3, q4, _⟩ := head_is (h := h) (g := h.cut T mid) (S := U) rfl ok.ok k1 (fun j hj => by
   obtain ⟨hr, e⟩ := ring_split T U j hj
   show M.secs[h.place (h.place h.at' (roomW T)) j]? = _
   rw [place_add, k1.body _ hr, e])
 exact ⟨(q4 k3).1, q1 (q4 k3).1, q3 k2, (q4 k3).2⟩
theorem Log.trim {A B : Cp} {h : Hw} {R : List Rc} (L : Log A B h R) (upto : Int) :
   ∃ A' B' g, trimV A B upto = (0, A', B') ∧ Log A' B' g (R.dropWhile fun r => decide (r.last ≤ upto)) ∧ g.n = h.n ∧ g.next = h.next ∧ A'.isNone = A.isNone ∧ B'.isNone = B.isNone := by
 unfold trimV
 rw [L.begin]
 simp only [ne_eq, not_true_eq_false, if_false]
 rw [L.walk]
 simp only [Bool.true_eq_false, if_false]
 have hsplit : R.takeWhile (fun r => decide (r.last ≤ upto)) ++ R.dropWhile (fun r => decide (r.last ≤ upto)) = R := List.takeWhile_append_dropWhile
 generalize hT : R.takeWhile (fun r => decide (r.last ≤ upto)) = T at hsplit ⊢
 generalize R.dropWhile (fun r => decide (r.last ≤ upto)) = U at hsplit ⊢
 subst hsplit
 obtain ⟨mid, h1, h2⟩ := chain_app.1 L.ok.chain
 by_cases h0 : posW h h.at' T = []
 · rw [if_pos h0]
   have : T = [] := by cases T with
     | nil => rfl
     | cons r T => simp [posW] at h0
   subst this
   exact ⟨A, B, h, rfl, L, rfl, rfl, rfl, rfl⟩
 · rw [if_neg h0, restW_cut L.ok h1]
   obtain ⟨A', B', e, L', n1, n2⟩ := L.cut h1 h2
   exact ⟨A', B', _, e, L', rfl, rfl, n1, n2⟩
theorem Log.read {A B : Cp} {h : Hw} {R : List Rc} (L : Log A B h R) (frm : Int) :
   readV A B frm = (if max frm 1 < (h.first : Int) then ([], 18) else (R.filter fun r => decide (frm ≤ r.last), 0), A, B) := by
 unfold readV
 rw [L.begin]
 simp only [ne_eq, not_true_eq_false, if_false]
 rw [L.walk]
 rw [takeWhile_true]
 simp only [posW_map, if_true]
 split <;> rfl
/-- Append. -/
theorem Log.append {A B : Cp} {h : Hw} {R : List Rc} (L : Log A B h R) (unit : Int) (l : List Ch) :
   let r : Rc := ⟨h.next, unit, l⟩
   ∃ A' B' g S, appendV A B unit l = (if r.sound = false then (0, 1) else if 16384 < r.b.length then (0, 8) else if h.free < cntW r.b.length then (0, 14) else ((h.next : Int), 0), A', B') ∧ Log A' B' g S ∧ g.n = h.n ∧ g.first = h.first ∧
     (g, S) = (if r.valid = true ∧ cntW r.b.length ≤ h.free then (h.more r, R ++ [r]) else (h, R)) ∧ A'.isNone = A.isNone ∧ B'.isNone = B.isNone := by
 intro r
 unfold appendV
 rw [L.begin]
 simp only [ne_eq, not_true_eq_false, if_false]
 show ∃ A' B' g S, (if r.sound = false then ((0, 1), A, B) else if 16384 < r.b.length then ((0, 8), A, B) else if h.free < cntW r.b.length then ((0, 14), A, B) else ((if ¬ (addV A B h r).1 = 0 then 0 else r.num, (addV A B h r).1), (addV A B h r).2)) = _ ∧ _
 by_cases h1 : r.sound = false
 · rw [if_pos h1, if_pos h1]
   exact ⟨A, B, h, R, rfl, L, rfl, rfl, by rw [if_neg]; rintro ⟨h2, _⟩; rw [Rc.valid_iff, h1] at h2; simp at h2, rfl, rfl⟩
 · rw [if_neg h1, if_neg h1]
   by_cases h2 : 16384 < r.b.length
   · rw [if_pos h2, if_pos h2]
     exact ⟨A, B, h, R, rfl, L, rfl, rfl, by rw [if_neg]; rintro ⟨h3, _⟩; rw [Rc.valid_iff] at h3; omega, rfl, rfl⟩
   · rw [if_neg h2, if_neg h2]
     by_cases h3 : h.free < cntW r.b.length
     · rw [if_pos h3, if_pos h3]
       exact ⟨A, B, h, R, rfl, L, rfl, rfl, by rw [if_neg]; rintro ⟨_, h4⟩; omega, rfl, rfl⟩
     · rw [if_neg h3, if_neg h3]
       have hv : r.valid = true := Rc.valid_iff.2 ⟨by simpa using h1, by omega⟩
       obtain ⟨A', B', e, L', n1, n2⟩ := L.add hv rfl (by omega)
       rw [e]
       exact ⟨A', B', _, _, by simp [r], L', rfl, rfl, by rw [if_pos ⟨hv, by omega⟩], n1, n2⟩
end

section
open Go.RowKit Go.Sort

/-- All sectors of a store have 128 bytes. -/
def Full (M : Mm) : Prop := ∀ s ∈ M.secs, s.length = 128
theorem full_of {M : Mm} (h : Full M) {k : Nat} {s : By} (hk : M.secs[k]? = some s) : s.length = 128 := h s (List.mem_of_getElem? hk)
theorem setsL_full : ∀ (l : List (Nat × By)) (s : List By), (∀ x ∈ s, x.length = 128) → (∀ x ∈ l, x.2.length = 128) → ∀ x ∈ setsL s l, x.length = 128
 | [], _, h, _ => h
 | x :: l, s, h, hl => by
   rw [setsL_cons]
   refine setsL_full l _ (fun y hy => ?_) (fun y hy => hl y (by simp [hy]))
   rcases List.mem_or_eq_of_mem_set hy with hy | rfl
   · exact h y hy
   · exact hl x (by simp)
theorem Wrote.full {M N : Mm} {l : List (Nat × By)} {e : Int} {k : Nat} (h : Wrote M l e N k) (hf : M.fits l = true) (hm : Full M) : Full N := by
 intro s hs
 rw [h.secs] at hs
 exact setsL_full _ _ hm (fun x hx => ((fits_iff.1 hf) x (List.mem_of_mem_take hx)).2) s hs
theorem wr_full {M : Mm} {l : List (Nat × By)} (hf : M.fits l = true) (hl : l.length ≤ 64) (hm : Full M) : Full (M.wr l).2 := by
 obtain ⟨k, hk⟩ := wr_wrote hf hl
 exact hk.full hf hm
theorem addM_full {h : Hw} {R : List Rc} {r : Rc} {M : Mm} (ok : LgOk h R) (hv : r.valid = true) (hn : r.num = (h.next : Int)) (hs : cntW r.b.length ≤ h.free) (hm : CpIs h R M) (hF : Full M) : Full (addM h r M).2 := by
 have hok := more_ok ok hv hn hs
 have h16 := ok.ok.n
 have hl := hm.len
 have hf := listW_fits hm ok.ok hv
 obtain ⟨k, hk⟩ := wrs_wrote hf
 have hN := hk.full hf hF
 have hlen : (M.wrs (listW h r.num.toNat r.b)).2.secs.length = M.secs.length := by rw [hk.secs, setsL_len]
 unfold addM
 generalize M.wrs (listW h r.num.toNat r.b) = q at hN hlen ⊢
 simp only
 split
 · exact hN
 · refine wr_full (fits_iff.2 ?_) (by simp) hN
   intro x hx; simp at hx; subst hx
   exact ⟨by show 0 < _; omega, sectL_len _ (by have := (h.more r).b_len hok.ok; omega)⟩

theorem dupL_mem {F : Mm} {h : Hw} {x : Nat × By} (hx : x ∈ dupL F h) : 1 ≤ x.1 ∧ x.1 < h.n ∧ F.rd x.1 = some x.2 := by
 unfold dupL at hx
 rw [List.mem_filterMap] at hx
 obtain ⟨k, hk, e⟩ := hx
 rw [List.mem_range'_1] at hk
 cases hr : F.rd k with
 | none => rw [hr] at e; cases e
 | some s => rw [hr] at e; cases e; exact ⟨by simp; omega, by simp; omega, hr⟩
theorem dupL_in {F : Mm} {h : Hw} {k : Nat} {s : By} (h1 : 1 ≤ k) (h2 : k < h.n) (hr : F.rd k = some s) : (k, s) ∈ dupL F h := by
 unfold dupL
 rw [List.mem_filterMap]
 exact ⟨k, by rw [List.mem_range'_1]; omega, by rw [hr]; rfl⟩
theorem rd_secs {M : Mm} {k : Nat} {s : By} (h : M.rd k = some s) : M.secs[k]? = some s := by
 unfold Mm.rd at h
 split at h
 · cases h
 · exact h
/-- A copy is made like a copy that is in order. -/
theorem dup_is {T F : Mm} {h : Hw} {R : List Rc} (ok : LgOk h R) (hF : CpIs h R F) (hc : Clean F) (hff : Full F) (hft : Full T) (hl : h.n ≤ T.secs.length) (hfu : T.fuse = -1) (hbad : ∀ k, T.bad k = true → k < h.n) :
   (dupV T F h).1 = 0 ∧ CpIs h R (dupV T F h).2 ∧ Clean (dupV T F h).2 ∧ (dupV T F h).2.fuse = -1 ∧ Full (dupV T F h).2 ∧ (dupV T F h).2.secs.length = T.secs.length := by
 have h16 := ok.ok.n
 have hfl := hF.len
 have hfits : T.fits (dupL F h) = true := by
   rw [fits_iff]
   intro x hx
   obtain ⟨h1, h2, h3⟩ := dupL_mem hx
   exact ⟨by omega, full_of hff (rd_secs h3)⟩
 obtain ⟨k, hk⟩ := wrs_wrote hfits
 have hN := hk.full hfits hft
 obtain ⟨e0, f0⟩ := hk.fuse hfu
 unfold dupV
 generalize T.wrs (dupL F h) = q at hk hN e0 f0 ⊢
 obtain ⟨e, N⟩ := q
 simp only at hk hN e0 f0 ⊢
 subst e0
 rw [if_neg (by simp)]
 have hall := hk.all rfl
 have hlen : N.secs.length = T.secs.length := by rw [hk.secs, setsL_len]
 have hsec : ∀ j, 1 ≤ j → j < h.n → N.secs[j]? = F.secs[j]? := by
   intro j h1 h2
   have hj : j < F.secs.length := by omega
   have hr : F.rd j = some F.secs[j] := by rw [rd_clean (hc j)]; exact List.getElem?_eq_getElem hj
   rw [hk.secs, hall, List.getElem?_eq_getElem hj]
   refine setsL_in _ _ j _ (dupL_in h1 h2 hr) (by omega) (fun x hx e => ?_)
   obtain ⟨_, _, h3⟩ := dupL_mem hx
   rw [e, hr] at h3
   exact (Option.some.inj h3).symm
 have hnb : ∀ j, N.bad j = true → j = 0 := by
   intro j hj
   rw [hk.bad, hall] at hj
   split at hj
   · cases hj
   · rename_i hno
     by_cases h0 : j = 0
     · exact h0
     · exfalso
       have hlt := hbad j hj
       have hjf : j < F.secs.length := by omega
       have hr : F.rd j = some F.secs[j] := by rw [rd_clean (hc j)]; exact List.getElem?_eq_getElem hjf
       exact hno ⟨_, dupL_in (by omega) hlt hr, rfl⟩
 have hsl : h.s.length = 128 := sectL_len _ (by have := h.b_len ok.ok; omega)
 have hf1 : N.fits [(0, h.s)] = true := by rw [fits_iff]; intro x hx; simp at hx; subst hx; exact ⟨by show 0 < _; omega, hsl⟩
 obtain ⟨k2, hk2⟩ := wr_wrote hf1 (by simp)
 have hO := hk2.full hf1 hN
 obtain ⟨e1, f1⟩ := hk2.fuse f0
 have hs2 := hk2.secs
 rw [hk2.all e1] at hs2
 refine ⟨e1, ⟨by rw [hs2, setsL_len]; omega, ?_, fun j hj => ?_⟩, fun j => ?_, f1, hO, by rw [hs2, setsL_len, hlen]⟩
 · rw [hs2]; exact setsL_in _ _ 0 _ (by simp) (by omega) (by simp)
 · have hp := place_lt (h := h) (by omega) h.at' j
   rw [hs2, setsL_out _ _ _ (by intro x hx; simp at hx; subst hx; show 0 ≠ _; omega), hsec _ hp.1 hp.2]
   exact hF.body j hj
 · rw [hk2.bad, hk2.all e1]
   split
   · rfl
   · rename_i hno
     cases hb : N.bad j with
     | false => rfl
     | true => exact absurd ⟨(0, h.s), by simp, (hnb j hb).symm⟩ hno

/-! ### An append that ends at any write -/
/-- A copy holds a log or the same with a record more. -/
theorem begin_behind {M N : Mm} {h g : Hw} {R S : List Rc} (hM : CpIs g S M) (hN : CpIs h R N) (okg : LgOk g S) (okh : LgOk h R) (cM : Clean M) (cN : Clean N) (hn : g.newer h = true) : beginV (some M) (some N) = ⟨g, (dupV N M g).1, some M, some (dupV N M g).2⟩ := by
 unfold beginV
 rw [if_neg (by simp), hdC_is hM okg.ok (cM 0), hdC_is hN okh.ok (cN 0)]
 simp only
 rw [if_pos hn]
 rfl
/-- The first copy's head can't be read: it is made like the second. -/
theorem begin_lostA {M N : Mm} {h : Hw} {R : List Rc} (hM : hdC (some M) = none) (hN : CpIs h R N) (ok : LgOk h R) (cN : Clean N) : beginV (some M) (some N) = ⟨h, (dupV M N h).1, some (dupV M N h).2, some N⟩ := by
 unfold beginV
 rw [if_neg (by simp), hM, hdC_is hN ok.ok (cN 0)]
 rfl
theorem begin_lostB {M N : Mm} {h : Hw} {R : List Rc} (hN : hdC (some N) = none) (hM : CpIs h R M) (ok : LgOk h R) (cM : Clean M) : beginV (some M) (some N) = ⟨h, (dupV N M h).1, some M, some (dupV N M h).2⟩ := by
 unfold beginV
 rw [if_neg (by simp), hN, hdC_is hM ok.ok (cM 0)]
 rfl
theorem hdC_bad {M : Mm} (h : M.bad 0 = true) : hdC (some M) = none := by
 unfold hdC opC Mm.rd
 simp [h]
theorem out_bad {M : Mm} {k : Nat} (h : M.bad k = true) : Out (some M) k := by
 unfold Out opC Mm.rd
 simp [h]
/-- One copy holds the log, some sectors of the other can't be read: what is read. -/
theorem says_bad {M N : Mm} {h : Hw} {R : List Rc} (hM : CpIs h R M) (hN : CpIs h R N) (c : Clean M ∨ Clean N) (j : Nat) (hj : j < (ringW R).length) : Says (some M) (some N) (h.place h.at' j) (ringW R)[j] := by
 rcases c with c | c
 · exact Or.inl (hM.rdy c j hj)
 · cases hb : M.bad (h.place h.at' j) with
   | false => exact Or.inl ⟨M, rfl, by rw [rd_clean hb, hM.body j hj]⟩
   | true => exact Or.inr ⟨out_bad hb, hN.rdy c j hj⟩
end

section
open Go.RowKit Go.Sort

theorem chain_ge : ∀ {l : List Rc} {a b : Nat}, Chain a l b → ∀ r ∈ l, (a : Int) ≤ r.last
 | r :: l, a, b, h, x, hx => by
   obtain ⟨hv, hn, hc⟩ := h
   have h2 := Rc.last_eq hv
   have h3 := (Rc.valid_num hv).2
   have h1 : r.last = r.num + r.l.length - 1 := rfl
   rcases List.mem_cons.1 hx with rfl | hx
   · omega
   · have := chain_ge hc x hx
     omega
theorem chain_first : ∀ {l : List Rc} {a b : Nat}, Chain a l b → a = (match l with | [] => b | r :: _ => r.num.toNat)
 | [], _, _, h => h
 | r :: l, a, b, h => by
   obtain ⟨_, hn, _⟩ := h
   simp only; omega
theorem drop_filter (upto : Int) : ∀ {l : List Rc} {a b : Nat}, Chain a l b → l.dropWhile (fun r => decide (r.last ≤ upto)) = l.filter (fun r => decide (upto < r.last))
 | [], _, _, _ => rfl
 | r :: l, a, b, h => by
   obtain ⟨hv, hn, hc⟩ := h
   by_cases hp : r.last ≤ upto
   · rw [List.dropWhile_cons_of_pos (by simpa using hp), List.filter_cons_of_neg (by simpa using hp)]
     exact drop_filter upto hc
   · rw [List.dropWhile_cons_of_neg (by simpa using hp), List.filter_cons_of_pos (by simp; omega)]
     congr 1
     symm
     rw [List.filter_eq_self]
     intro x hx
     have h1 := chain_ge hc x hx
     have h2 := Rc.last_eq hv
     simp; omega
theorem chain_drop (p : Rc → Bool) : ∀ {l : List Rc} {a b : Nat}, Chain a l b → ∃ c, Chain c (l.dropWhile p) b
 | [], a, b, h => ⟨a, h⟩
 | r :: l, a, b, h => by
   by_cases hp : p r = true
   · rw [List.dropWhile_cons_of_pos hp]; exact chain_drop p h.2.2
   · rw [List.dropWhile_cons_of_neg hp]; exact ⟨a, h⟩
/-- All records are read from the first number on. -/
theorem chain_all {l : List Rc} {a b : Nat} (h : Chain a l b) : l.filter (fun r => decide ((a : Int) ≤ r.last)) = l := by
 rw [List.filter_eq_self]
 intro r hr
 simpa using chain_ge h r hr
theorem Log.readAll {A B : Cp} {h : Hw} {R : List Rc} (L : Log A B h R) : readV A B h.first = ((R, 0), A, B) := by
 have := L.ok.first
 rw [L.read, if_neg (by omega), chain_all L.ok.chain]

/-! ### The reference -/
structure Rs where
 n : Int
 first : Int
 next : Int
 l : List Rc
def Rs.free (s : Rs) : Int := s.n - (s.l.map fun r => (cntW r.b.length : Int)).sum
def Rs.append (s : Rs) (unit : Int) (l : List Ch) : Rs × Int × Int :=
 let r : Rc := ⟨s.next, unit, l⟩
 if r.sound = false then (s, 0, 1) else if 16384 < r.b.length then (s, 0, 8) else if s.free < (cntW r.b.length : Int) then (s, 0, 14) else (⟨s.n, s.first, r.last + 1, s.l ++ [r]⟩, r.num, 0)
def Rs.read (s : Rs) (frm : Int) : List Rc × Int := if max frm 1 < s.first then ([], 18) else (s.l.filter fun r => decide (frm ≤ r.last), 0)
def Rs.trim (s : Rs) (upto : Int) : Rs :=
 let l := s.l.filter fun r => decide (upto < r.last)
 ⟨s.n, match l with | [] => s.next | r :: _ => r.num, s.next, l⟩
/-- The reference stands where the log stands. -/
def Ref (h : Hw) (R : List Rc) (s : Rs) : Prop := s = ⟨(h.n : Int) - 1, h.first, h.next, R⟩
theorem room_sum : ∀ l : List Rc, (l.map fun r => (cntW r.b.length : Int)).sum = roomW l
 | [] => rfl
 | r :: l => by rw [List.map_cons, List.sum_cons, room_sum l, roomW]; omega
theorem Ref.free {h : Hw} {R : List Rc} {s : Rs} (hr : Ref h R s) (ok : LgOk h R) : s.free = h.free := by
 rw [hr, Rs.free]
 simp only [room_sum, ok.used, Hw.free]
 have := ok.ok.used
 have := ok.ok.n
 omega
theorem Ref.trim {h g : Hw} {R : List Rc} {s : Rs} {upto : Int} (hr : Ref h R s) (ok : LgOk h R) (okg : LgOk g (R.dropWhile fun r => decide (r.last ≤ upto))) (hn : g.n = h.n) (hx : g.next = h.next) :
   Ref g (R.dropWhile fun r => decide (r.last ≤ upto)) (s.trim upto) := by
 rw [hr]
 unfold Ref Rs.trim
 rw [drop_filter upto ok.chain] at okg ⊢
 have hf := chain_first okg.chain
 have hc := okg.chain
 simp only
 generalize R.filter (fun r => decide (upto < r.last)) = U at hf hc ⊢
 match U, hf, hc with
 | [], hf, _ => simp only at hf ⊢; rw [hn, hx, hf, hx]
 | r :: l, hf, hc =>
   have := (Rc.valid_num hc.1).1
   simp only at hf ⊢
   rw [hn, hx, show (g.first : Int) = r.num by omega]
theorem Ref.read {h : Hw} {R : List Rc} {s : Rs} (hr : Ref h R s) (frm : Int) : s.read frm = (if max frm 1 < (h.first : Int) then ([], 18) else (R.filter fun r => decide (frm ≤ r.last), 0)) := by
 rw [hr]; rfl
theorem Ref.append {h g : Hw} {R S : List Rc} {s : Rs} {unit : Int} {l : List Ch} (hr : Ref h R s) (ok : LgOk h R) (he : (g, S) = (if (Rc.mk h.next unit l).valid = true ∧ cntW (Rc.mk h.next unit l).b.length ≤ h.free then (h.more ⟨h.next, unit, l⟩, R ++ [⟨h.next, unit, l⟩]) else (h, R))) :
   Ref g S (s.append unit l).1 ∧ (s.append unit l).2 = (if (Rc.mk h.next unit l).sound = false then (0, 1) else if 16384 < (Rc.mk h.next unit l).b.length then (0, 8) else if h.free < cntW (Rc.mk h.next unit l).b.length then (0, 14) else ((h.next : Int), 0)) := by
 have hf := hr.free ok
 have hs : s = ⟨(h.n : Int) - 1, h.first, h.next, R⟩ := hr
 unfold Rs.append
 rw [hf]
 rw [show s.next = (h.next : Int) by rw [hs]]
 simp only
 have hrn : (Rc.mk h.next unit l).num = (h.next : Int) := rfl
 generalize (Rc.mk h.next unit l) = r at he hrn ⊢
 by_cases h1 : r.sound = false
 · rw [if_pos h1, if_pos h1]
   rw [if_neg (by rintro ⟨h2, _⟩; rw [Rc.valid_iff, h1] at h2; simp at h2)] at he
   cases he
   exact ⟨hr, rfl⟩
 · rw [if_neg h1, if_neg h1]
   by_cases h2 : 16384 < r.b.length
   · rw [if_pos h2, if_pos h2]
     rw [if_neg (by rintro ⟨h3, _⟩; rw [Rc.valid_iff] at h3; omega)] at he
     cases he
     exact ⟨hr, rfl⟩
   · rw [if_neg h2, if_neg h2]
     by_cases h3 : h.free < cntW r.b.length
     · rw [if_pos (by omega), if_pos h3]
       rw [if_neg (by rintro ⟨_, h4⟩; omega)] at he
       cases he
       exact ⟨hr, rfl⟩
     · rw [if_neg (by omega), if_neg h3]
       have hv : r.valid = true := Rc.valid_iff.2 ⟨by simpa using h1, by omega⟩
       rw [if_pos ⟨hv, by omega⟩] at he
       cases he
       have h4 := Rc.last_eq hv
       refine ⟨?_, ?_⟩
       · show Rs.mk s.n s.first (r.last + 1) (s.l ++ [r]) = _
         rw [hs]
         show Rs.mk _ _ _ _ = ⟨((h.more r).n : Int) - 1, (h.more r).first, (h.more r).next, _⟩
         simp only [Hw.more]
         congr 1
         omega
       · rfl
end

end Go.Proofs.YtjpkdhnponcciaaGreatDoor
